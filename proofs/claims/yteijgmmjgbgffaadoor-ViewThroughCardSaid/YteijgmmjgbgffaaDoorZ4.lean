/- Contracts and plain laws that the claim rests on, for every input: no condition. -/
import Derived.Test.YteijgmmjgbgffaaDoorZ3
namespace Go.Proofs.YteijgmmjgbgffaaDoor
open Go.V
/-! ### Relations -/
theorem nodup_inj {l : List Nat} (h : l.Nodup) {i j : Nat} (hi : i < l.length) (hj : j < l.length) (e : l[i] = l[j]) : i = j := by
  rcases Nat.lt_trichotomy i j with h1 | h1 | h1
  · exact absurd e (List.pairwise_iff_getElem.1 h i j hi hj h1)
  · exact h1
  · exact absurd e.symm (List.pairwise_iff_getElem.1 h j i hj hi h1)
/-- Relation R: its rows lie in block B, row i is rs[i], its words qs[i]; M tells who is ahead of whom. -/
structure RL (H : Hp) (R B : Nat) (rs qs : List Nat) (n : Nat) (M : Nat → Nat → Bool) : Prop where
  tz : Tz H
  lim : n ≤ 200
  lr : rs.length = n
  lq : qs.length = n
  hd : ∃ c, rd H R 0 = some (.slice (some ⟨B, 0, none⟩) n c) ∧ n ≤ c
  hB : ∃ cs, H B = some cs
  ptr : ∀ i (h : i < rs.length), rd H B i = some (.pointer (some ⟨rs[i], 0, none⟩))
  row : ∀ i (h : i < rs.length) (h' : i < qs.length), BR H rs[i] qs[i] n (M i)
  out : ∀ a b, n ≤ a → M a b = false
  nd : (R :: B :: (rs ++ qs)).Nodup
  g : gTab ∉ R :: B :: (rs ++ qs)
def RLO (H : Hp) (R : Nat) (O : List Nat) (n : Nat) (M : Nat → Nat → Bool) : Prop := ∃ B rs qs, O = R :: B :: (rs ++ qs) ∧ RL H R B rs qs n M

theorem RL.mod {H H' : Hp} {R B : Nat} {rs qs : List Nat} {n : Nat} {M : Nat → Nat → Bool} {O : List Nat} (h : RL H R B rs qs n M) (hm : Mod O H H') (hd : ∀ b ∈ O, b ∉ R :: B :: (rs ++ qs)) (hg : gTab ∉ O) : RL H' R B rs qs n M := by
  have hR : R ∉ O := fun hb => hd R hb (by simp)
  have hB : B ∉ O := fun hb => hd B hb (by simp)
  obtain ⟨c, h1, h2⟩ := h.hd
  obtain ⟨cs, h3⟩ := h.hB
  refine ⟨h.tz.mod hm hg, h.lim, h.lr, h.lq, ⟨c, hm.rd hR h1, h2⟩, ⟨cs, hm _ hB _ h3⟩, fun i hi => hm.rd hB (h.ptr i hi), fun i hi hi' => (h.row i hi hi').mod hm (fun hb => ?_) (fun hb => ?_) hg, h.out, h.nd, h.g⟩
  · exact hd _ hb (by simp)
  · exact hd _ hb (by simp)
theorem RLO.mod {H H' : Hp} {R : Nat} {n : Nat} {M : Nat → Nat → Bool} {O P : List Nat} (h : RLO H R O n M) (hm : Mod P H H') (hd : ∀ b ∈ P, b ∉ O) (hg : gTab ∉ P) : RLO H' R O n M := by
  obtain ⟨B, rs, qs, rfl, h⟩ := h
  exact ⟨B, rs, qs, rfl, h.mod hm hd hg⟩
theorem RLO.le {H H' : Hp} {R : Nat} {n : Nat} {M : Nat → Nat → Bool} {O : List Nat} (h : RLO H R O n M) (hm : Le H H') : RLO H' R O n M := h.mod (P := []) hm.mod (by simp) (by simp)
theorem RLO.tz {H : Hp} {R : Nat} {n : Nat} {M : Nat → Nat → Bool} {O : List Nat} (h : RLO H R O n M) : Tz H := by obtain ⟨B, rs, qs, rfl, h⟩ := h; exact h.tz
theorem RLO.g {H : Hp} {R : Nat} {n : Nat} {M : Nat → Nat → Bool} {O : List Nat} (h : RLO H R O n M) : gTab ∉ O := by obtain ⟨B, rs, qs, rfl, h⟩ := h; exact h.g
theorem RLO.lim {H : Hp} {R : Nat} {n : Nat} {M : Nat → Nat → Bool} {O : List Nat} (h : RLO H R O n M) : n ≤ 200 := by obtain ⟨B, rs, qs, rfl, h⟩ := h; exact h.lim
theorem RLO.there {H : Hp} {R : Nat} {n : Nat} {M : Nat → Nat → Bool} {O : List Nat} (h : RLO H R O n M) : ∀ b ∈ O, H b ≠ none := by
  obtain ⟨B, rs, qs, rfl, h⟩ := h
  intro b hb
  rcases List.mem_cons.1 hb with rfl | hb
  · obtain ⟨c, h1, _⟩ := h.hd; exact ne_none_of_rd h1
  rcases List.mem_cons.1 hb with rfl | hb
  · obtain ⟨cs, h1⟩ := h.hB; rw [h1]; intro e; cases e
  rcases List.mem_append.1 hb with hb | hb
  · obtain ⟨i, hi, rfl⟩ := List.mem_iff_getElem.1 hb
    exact (h.row i hi (by rw [h.lq, ← h.lr]; exact hi)).hr
  · obtain ⟨i, hi, rfl⟩ := List.mem_iff_getElem.1 hb
    exact (h.row i (by rw [h.lr, ← h.lq]; exact hi) hi).hq
theorem RLO.out {H : Hp} {R : Nat} {n : Nat} {M : Nat → Nat → Bool} {O : List Nat} (h : RLO H R O n M) : ∀ a b, n ≤ a ∨ n ≤ b → M a b = false := by
  obtain ⟨B, rs, qs, rfl, h⟩ := h
  rintro a b (h1 | h1)
  · exact h.out a b h1
  · by_cases ha : n ≤ a
    · exact h.out a b ha
    · exact (h.row a (by rw [h.lr]; omega) (by rw [h.lq]; omega)).out b h1
theorem RL.congr {H : Hp} {R B : Nat} {rs qs : List Nat} {n : Nat} {M M' : Nat → Nat → Bool} (h : RL H R B rs qs n M) (e : ∀ a b, M' a b = M a b) : RL H R B rs qs n M' := by
  have : M' = M := funext fun a => funext fun b => e a b
  rw [this]; exact h
theorem RLO.congr {H : Hp} {R : Nat} {n : Nat} {M M' : Nat → Nat → Bool} {O : List Nat} (h : RLO H R O n M) (e : ∀ a b, M' a b = M a b) : RLO H R O n M' := by
  have : M' = M := funext fun a => funext fun b => e a b
  rw [this]; exact h

/-- A relation made where nothing was is none of what there was. -/
theorem RLO.apart {H : Hp} {R : Nat} {n : Nat} {M : Nat → Nat → Bool} {O P : List Nat} (h : RLO H R O n M) (hP : ∀ b ∈ P, H b = none) : (∀ b ∈ P, b ∉ O) ∧ (∀ b ∈ O, b ∉ P) ∧ gTab ∉ P :=
  ⟨fun b hb hb' => h.there b hb' (hP b hb), fun b hb hb' => h.there b hb (hP b hb'), fun hb => h.tz.there (hP _ hb)⟩

section
variable {H : Hp} {R B : Nat} {rs qs : List Nat} {n : Nat} {M : Nat → Nat → Bool}
/-- A look at row i. -/
theorem RL.at (h : RL H R B rs qs n M) {i : Int} {a : Nat} (hi : i = (a : Int)) (ha : a < n) {F : Option Addr → Prop} (hF : F (some ⟨rs[a]'(by rw [h.lr]; exact ha), 0, none⟩)) :
    NIL (some ⟨R, 0, none⟩) fun b o => ldL (rd H b o) fun xp xl _ => IDX i xl fun k => NIL xp fun b' o' => ldP (rd H b' (o' + k)) F := by
  obtain ⟨c, h1, h2⟩ := h.hd
  refine nil ?_
  refine ldL_i h1 ?_
  refine idxN a hi ha ?_
  refine nil ?_
  exact ldP_i (by rw [Nat.zero_add]; exact h.ptr a (by rw [h.lr]; exact ha)) hF
theorem RL.br (h : RL H R B rs qs n M) {a : Nat} (ha : a < n) : BR H (rs[a]'(by rw [h.lr]; exact ha)) (qs[a]'(by rw [h.lq]; exact ha)) n (M a) := h.row a _ _
/-- Row i has become s. -/
theorem RL.setRow (h : RL H R B rs qs n M) {a : Nat} (ha : a < n) {H' : Hp} {s : Nat → Bool} (hb : BR H' (rs[a]'(by rw [h.lr]; exact ha)) (qs[a]'(by rw [h.lq]; exact ha)) n s) (hm : Mod [qs[a]'(by rw [h.lq]; exact ha)] H H') :
    RL H' R B rs qs n (fun x y => if x = a then s y else M x y) := by
  have hnd := h.nd
  have haq : a < qs.length := by rw [h.lq]; exact ha
  simp only [List.nodup_cons, List.mem_cons, List.mem_append, List.nodup_append] at hnd
  obtain ⟨n1, n2, n3, n4, n5⟩ := hnd
  have hR : R ∉ [qs[a]] := by simp; intro e; exact n1 (.inr (.inr (e ▸ List.getElem_mem haq)))
  have hB : B ∉ [qs[a]] := by simp; intro e; exact n2 (.inr (e ▸ List.getElem_mem haq))
  obtain ⟨c, h1, h2⟩ := h.hd
  obtain ⟨cs, h3⟩ := h.hB
  refine ⟨hb.tz, h.lim, h.lr, h.lq, ⟨c, hm.rd hR h1, h2⟩, ⟨cs, hm _ hB _ h3⟩, fun i hi => hm.rd hB (h.ptr i hi), fun i hi hi' => ?_, fun x y hx => ?_, h.nd, h.g⟩
  · by_cases e : i = a
    · subst e; simpa using hb
    · simp only [if_neg e]
      refine (h.row i hi hi').mod hm (fun hx => ?_) (fun hx => ?_) (by simpa using hb.gq.symm)
      · simp at hx; exact n5 _ (List.getElem_mem hi) _ (List.getElem_mem haq) hx
      · simp at hx
        exact e (nodup_inj n4 hi' haq hx)
  · have : ¬ x = a := by omega
    simp only [if_neg this]; exact h.out x y hx
end
theorem RL.mem {H : Hp} {R B : Nat} {rs qs : List Nat} {n : Nat} {M : Nat → Nat → Bool} (h : RL H R B rs qs n M) {a : Nat} (ha : a < n) : (qs[a]'(by rw [h.lq]; exact ha)) ∈ R :: B :: (rs ++ qs) := by simp

theorem rel_Rel_Len.c {R n : Nat} {M : Nat → Nat → Bool} {O : List Nat} {H : Hp} {K : Int → Hp → Prop} (hu : RLO H R O n M) (hK : K (n : Nat) H) : rel_Rel_Len.C (some ⟨R, 0, none⟩) H K := by
  apply rel_Rel_Len.of
  obtain ⟨B, rs, qs, rfl, h⟩ := hu
  obtain ⟨c, h1, h2⟩ := h.hd
  exact bcd (fun h => by cases h) fun _ => nil (ldL_i h1 hK)
theorem rel_Rel_Len.nil {H : Hp} {K : Int → Hp → Prop} (hK : K 0 H) : rel_Rel_Len.C none H K := by
  apply rel_Rel_Len.of
  exact bcd (fun _ => hK) fun h => absurd rfl h
theorem rel_Rel_there.c {R n : Nat} {M : Nat → Nat → Bool} {O : List Nat} {i : Int} {H : Hp} {K : Bool → Hp → Prop} (hu : RLO H R O n M) (hK : K (decide (0 ≤ i ∧ i < (n : Int))) H) : rel_Rel_there.C (some ⟨R, 0, none⟩) i H K := by
  apply rel_Rel_there.of
  refine bcd (fun h => ?_) fun h => ?_
  · refine rel_Rel_Len.c hu ?_
    have e : decide (0 ≤ i ∧ i < (n : Int)) = decide (i < (n : Int)) := decide_eq_decide.2 ⟨fun g => g.2, fun g => ⟨h, g⟩⟩
    rw [← e]; exact hK
  · rwa [decide_eq_false (fun g => h g.1)] at hK

/-- Is a ahead of b? -/
def hasM (M : Nat → Nat → Bool) (a b : Int) : Bool := decide (0 ≤ a ∧ 0 ≤ b) && M a.toNat b.toNat
theorem hasM_nat {M : Nat → Nat → Bool} {a b : Nat} : hasM M (a : Int) (b : Int) = M a b := by
  have : (0 : Int) ≤ a ∧ (0 : Int) ≤ b := ⟨by omega, by omega⟩
  simp [hasM]
theorem rel_Rel_Has.c {R n : Nat} {M : Nat → Nat → Bool} {O : List Nat} {a b : Int} {H : Hp} {K : Bool → Hp → Prop} (hu : RLO H R O n M) (hK : K (hasM M a b) H) : rel_Rel_Has.C (some ⟨R, 0, none⟩) a b H K := by
  apply rel_Rel_Has.of
  refine rel_Rel_there.c hu ?_
  have hout := hu.out
  refine bcd (fun h => ?_) fun h => ?_
  · obtain ⟨B, rs, qs, rfl, h'⟩ := hu
    obtain ⟨a, rfl⟩ : ∃ k : Nat, a = k := ⟨a.toNat, by omega⟩
    refine h'.at rfl (by omega) ?_
    refine bits_Row_Has.c (h'.br (by omega)) ?_
    have e : hasB (M a) b = hasM M a b := by
      unfold hasB hasM
      by_cases hb : 0 ≤ b
      · simp [hb]
      · simp [hb]
    rw [e]; exact hK
  · have : hasM M a b = false := by
      unfold hasM
      by_cases h0 : 0 ≤ a ∧ 0 ≤ b
      · rw [hout _ _ (.inl (by omega))]; simp
      · simp [h0]
    rwa [this] at hK

/-- A pair more. -/
def addM (M : Nat → Nat → Bool) (n : Nat) (a b : Int) : Nat → Nat → Bool := fun x y => M x y || decide ((x : Int) = a ∧ (y : Int) = b ∧ x < n ∧ y < n)
def addB (M : Nat → Nat → Bool) (n : Nat) (a b : Int) : Bool := decide (0 ≤ a ∧ a < (n : Int) ∧ 0 ≤ b ∧ b < (n : Int)) && !hasM M a b
theorem putRow {M : Nat → Nat → Bool} {n a b : Nat} (ha : a < n) : (fun x y => if x = a then putB (M a) n (b : Int) true y else M x y) = addM M n a b := by
  funext x y
  unfold addM
  by_cases hx : x = a
  · subst hx
    rw [if_pos rfl, putB_nat]
    by_cases hy : y = b ∧ y < n
    · rw [if_pos hy]
      have : (x : Int) = (x : Int) ∧ (y : Int) = (b : Int) ∧ x < n ∧ y < n := ⟨rfl, by omega, ha, hy.2⟩
      simp [this]
    · rw [if_neg hy]
      have : ¬ ((x : Int) = (x : Int) ∧ (y : Int) = (b : Int) ∧ x < n ∧ y < n) := fun g => hy ⟨by omega, g.2.2.2⟩
      rw [decide_eq_false this, Bool.or_false]
  · rw [if_neg hx]
    have : ¬ ((x : Int) = (a : Int) ∧ (y : Int) = (b : Int) ∧ x < n ∧ y < n) := fun g => hx (by omega)
    rw [decide_eq_false this, Bool.or_false]
theorem addM_out {M : Nat → Nat → Bool} {n : Nat} {a b : Int} (h : ¬ (0 ≤ a ∧ a < (n : Int) ∧ 0 ≤ b ∧ b < (n : Int))) : addM M n a b = M := by
  funext x y
  unfold addM
  have : ¬ ((x : Int) = a ∧ (y : Int) = b ∧ x < n ∧ y < n) := fun g => h ⟨by omega, by omega, by omega, by omega⟩
  rw [decide_eq_false this, Bool.or_false]
theorem addM_has {M : Nat → Nat → Bool} {n : Nat} {a b : Int} (h : hasM M a b = true) : addM M n a b = M := by
  funext x y
  unfold addM
  by_cases g : (x : Int) = a ∧ (y : Int) = b ∧ x < n ∧ y < n
  · have : M x y = true := by rw [← g.1, ← g.2.1, hasM_nat] at h; exact h
    simp [this]
  · rw [decide_eq_false g, Bool.or_false]

theorem rel_Rel_Add.c {R n : Nat} {M : Nat → Nat → Bool} {O : List Nat} {a b : Int} {H : Hp} {K : Bool → Hp → Prop} (hu : RLO H R O n M) (hK : ∀ H', RLO H' R O n (addM M n a b) → Mod O H H' → K (addB M n a b) H') : rel_Rel_Add.C (some ⟨R, 0, none⟩) a b H K := by
  apply rel_Rel_Add.of
  have no : addB M n a b = false → addM M n a b = M → K false H := fun h1 h2 => by rw [← h1]; exact hK H (by rw [h2]; exact hu) .refl
  refine rel_Rel_there.c hu ?_
  refine bcn (fun h => no ?_ ?_) (fun h1 => ?_)
  · have := of_decide_eq_false h
    unfold addB; rw [decide_eq_false (fun g => this ⟨g.1, g.2.1⟩), Bool.false_and]
  · have := of_decide_eq_false h
    exact addM_out fun g => this ⟨g.1, g.2.1⟩
  refine rel_Rel_there.c hu ?_
  refine bcn (fun h => no ?_ ?_) (fun h2 => ?_)
  · have := of_decide_eq_false h
    unfold addB; rw [decide_eq_false (fun g => this g.2.2), Bool.false_and]
  · have := of_decide_eq_false h
    exact addM_out fun g => this g.2.2
  have h1 := of_decide_eq_true h1
  have h2 := of_decide_eq_true h2
  refine rel_Rel_Has.c hu ?_
  refine bc_i (fun h => no ?_ (addM_has h)) (fun h => ?_)
  · unfold addB; rw [h]; simp
  obtain ⟨B, rs, qs, rfl, h'⟩ := hu
  obtain ⟨a, rfl⟩ : ∃ k : Nat, a = k := ⟨a.toNat, by omega⟩
  obtain ⟨b, rfl⟩ : ∃ k : Nat, b = k := ⟨b.toNat, by omega⟩
  have ha : a < n := by omega
  refine h'.at rfl ha ?_
  refine bits_Row_Put.c (h'.br ha) fun H1 u1 m1 _ => ?_
  have e : addB M n a b = true := by
    unfold addB; rw [decide_eq_true ⟨h1.1, h1.2, h2.1, h2.2⟩, h]; rfl
  rw [← e]
  have u2 := h'.setRow ha u1 m1
  rw [putRow ha] at u2
  exact hK _ ⟨B, rs, qs, rfl, u2⟩ (m1.mono fun b' hb' => by simp at hb'; subst hb'; exact h'.mem ha)
end Go.Proofs.YteijgmmjgbgffaaDoor
namespace Go.Proofs.YteijgmmjgbgffaaDoor
open Go.V
/-! ### Ways -/
/-- One row of one round: who is ahead of k is ahead of those behind it. -/
def cloA (M : Nat → Nat → Bool) (k : Nat) : Nat → Nat → Nat → Bool
  | 0 => M
  | a + 1 => if cloA M k a a k then fun x y => if x = a then cloA M k a a y || cloA M k a k y else cloA M k a x y else cloA M k a
def cloK (M : Nat → Nat → Bool) (n : Nat) : Nat → Nat → Nat → Bool
  | 0 => M
  | k + 1 => cloA (cloK M n k) k n
def clo (M : Nat → Nat → Bool) (n : Nat) : Nat → Nat → Bool := cloK M n n
theorem cloA_eq (M : Nat → Nat → Bool) (k : Nat) : ∀ t x y, cloA M k t x y = (M x y || (decide (x < t) && M x k && M k y))
  | 0, x, y => by simp [cloA]
  | a + 1, x, y => by
    have ih := cloA_eq M k a
    have e1 : cloA M k a a k = M a k := by rw [ih]; simp
    have e2 : ∀ z, cloA M k a a z = M a z := fun z => by rw [ih]; simp
    have e3 : cloA M k a k y = M k y := by rw [ih]; cases M k y <;> simp
    rw [cloA, e1]
    by_cases hx : x = a
    · subst hx
      cases h : M x k
      · simp only [Bool.false_eq_true, if_false]
        rw [e2]; simp
      · simp only [if_true]
        rw [e2, e3]; simp
    · have : (x < a + 1) ↔ (x < a) := by omega
      rw [decide_eq_decide.2 this, ← ih]
      split
      · simp only [if_neg hx]
      · rfl
/-- By steps, with those below k between. -/
inductive Way (M : Nat → Nat → Bool) (k : Nat) : Nat → Nat → Prop
  | one {x y : Nat} : M x y = true → Way M k x y
  | two {x z y : Nat} : Way M k x z → z < k → Way M k z y → Way M k x y
theorem Way.mono {M : Nat → Nat → Bool} {k k' x y : Nat} (h : Way M k x y) (hk : k ≤ k') : Way M k' x y := by
  induction h with
  | one h => exact .one h
  | two _ hz _ ih1 ih2 => exact .two ih1 (by omega) ih2
/-- M speaks of those below n alone. -/
def Sup (M : Nat → Nat → Bool) (n : Nat) : Prop := ∀ x y, n ≤ x ∨ n ≤ y → M x y = false
theorem Sup.lt {M : Nat → Nat → Bool} {n x y : Nat} (h : Sup M n) (e : M x y = true) : x < n ∧ y < n := by
  constructor
  · apply Nat.lt_of_not_le; intro hx; rw [h x y (.inl hx)] at e; cases e
  · apply Nat.lt_of_not_le; intro hx; rw [h x y (.inr hx)] at e; cases e
theorem cloK_sup {M : Nat → Nat → Bool} {n : Nat} (h : Sup M n) : ∀ k, Sup (cloK M n k) n
  | 0 => h
  | k + 1 => fun x y hxy => by
    rw [cloK, cloA_eq]
    have ih := cloK_sup h k
    rw [ih x y hxy]
    rcases hxy with hx | hy
    · simp; intro h; omega
    · rw [ih k y (.inr hy)]; simp
theorem cloK_step {M : Nat → Nat → Bool} {n : Nat} (h : Sup M n) (k x y : Nat) : cloK M n (k + 1) x y = (cloK M n k x y || (cloK M n k x k && cloK M n k k y)) := by
  rw [cloK, cloA_eq]
  by_cases hx : x < n
  · simp [hx]
  · have := cloK_sup h k x k (.inl (by omega))
    simp [this]
theorem cloK_way {M : Nat → Nat → Bool} {n : Nat} (h : Sup M n) : ∀ k x y, cloK M n k x y = true ↔ Way M k x y
  | 0, x, y => by
    constructor
    · intro e; exact .one e
    · intro e
      cases e with
      | one e => exact e
      | two _ hz _ => omega
  | k + 1, x, y => by
    have ih := cloK_way h k
    have comp : ∀ {x z y}, cloK M n k x z = true → z < k → cloK M n k z y = true → cloK M n k x y = true := fun h1 hz h2 => (ih _ _).2 (.two ((ih _ _).1 h1) hz ((ih _ _).1 h2))
    constructor
    · intro e
      rw [cloK_step h, Bool.or_eq_true, Bool.and_eq_true] at e
      rcases e with e | ⟨e1, e2⟩
      · exact ((ih _ _).1 e).mono (by omega)
      · exact .two (((ih _ _).1 e1).mono (by omega)) (by omega) (((ih _ _).1 e2).mono (by omega))
    · intro e
      have st : ∀ u v, cloK M n (k + 1) u v = true ↔ (cloK M n k u v = true ∨ (cloK M n k u k = true ∧ cloK M n k k v = true)) := fun u v => by
        rw [cloK_step h, Bool.or_eq_true, Bool.and_eq_true]
      induction e with
      | one e => exact (st _ _).2 (.inl ((ih _ _).2 (.one e)))
      | @two x z y _ hz _ ih1 ih2 =>
        rw [st] at ih1 ih2 ⊢
        by_cases hzk : z = k
        · subst hzk
          have a1 : cloK M n z x z = true := by rcases ih1 with a | ⟨a, _⟩ <;> exact a
          have a2 : cloK M n z z y = true := by rcases ih2 with a | ⟨_, a⟩ <;> exact a
          exact .inr ⟨a1, a2⟩
        · have hz' : z < k := by omega
          rcases ih1 with a | ⟨a, b⟩
          · rcases ih2 with c | ⟨c, d⟩
            · exact .inl (comp a hz' c)
            · exact .inr ⟨comp a hz' c, d⟩
          · rcases ih2 with c | ⟨c, d⟩
            · exact .inr ⟨a, comp b hz' c⟩
            · exact .inr ⟨a, d⟩
/-- Who comes there by steps. -/
theorem clo_way {M : Nat → Nat → Bool} {n : Nat} (h : Sup M n) (x y : Nat) : clo M n x y = true ↔ Way M n x y := cloK_way h n x y
theorem clo_sup {M : Nat → Nat → Bool} {n : Nat} (h : Sup M n) : Sup (clo M n) n := cloK_sup h n
def Tr (M : Nat → Nat → Bool) : Prop := ∀ x y z, M x y = true → M y z = true → M x z = true
theorem clo_tr {M : Nat → Nat → Bool} {n : Nat} (h : Sup M n) : Tr (clo M n) := fun x y z h1 h2 => by
  have hy := ((clo_sup h).lt h1).2
  exact (clo_way h x z).2 (.two ((clo_way h x y).1 h1) hy ((clo_way h y z).1 h2))
theorem clo_ge {M : Nat → Nat → Bool} {n : Nat} (h : Sup M n) {x y : Nat} (e : M x y = true) : clo M n x y = true := (clo_way h x y).2 (.one e)
/-- The least that has all ways. -/
theorem clo_least {M N : Nat → Nat → Bool} {n : Nat} (h : Sup M n) (ht : Tr N) (hle : ∀ x y, M x y = true → N x y = true) {x y : Nat} (e : clo M n x y = true) : N x y = true := by
  have := (clo_way h x y).1 e
  clear e
  induction this with
  | one e => exact hle _ _ e
  | two _ _ _ ih1 ih2 => exact ht _ _ _ ih1 ih2
theorem bool_ext {a b : Bool} (h : a = true ↔ b = true) : a = b := by cases a <;> cases b <;> simp_all
theorem clo_of_tr {M : Nat → Nat → Bool} {n : Nat} (h : Sup M n) (ht : Tr M) : clo M n = M :=
  funext fun x => funext fun y => bool_ext ⟨fun e => clo_least h ht (fun _ _ e => e) e, clo_ge h⟩
theorem clo_clo {M : Nat → Nat → Bool} {n : Nat} (h : Sup M n) : clo (clo M n) n = clo M n := clo_of_tr (clo_sup h) (clo_tr h)
theorem clo_mono {M N : Nat → Nat → Bool} {n : Nat} (h : Sup M n) (hN : Sup N n) (hle : ∀ x y, M x y = true → clo N n x y = true) {x y : Nat} (e : clo M n x y = true) : clo N n x y = true :=
  clo_least h (clo_tr hN) hle e

/-! ### Relations made -/
theorem RL.nodup_of {R B : Nat} {rs qs : List Nat} (h1 : R ≠ B) (h2 : R ∉ rs) (h3 : R ∉ qs) (h4 : B ∉ rs) (h5 : B ∉ qs) (h6 : rs.Nodup) (h7 : qs.Nodup) (h8 : ∀ a ∈ rs, ∀ b ∈ qs, a ≠ b) : (R :: B :: (rs ++ qs)).Nodup := by
  simp only [List.nodup_cons, List.mem_cons, List.mem_append, List.nodup_append]
  exact ⟨fun h => h.elim h1 fun h => h.elim h2 h3, fun h => h.elim h4 h5, h6, h7, h8⟩

theorem rel_New.c {n : Int} {H : Hp} {K : Option Addr → Hp → Prop} (hT : Tz H)
    (hK : ∀ R O H', RLO H' R O (min (max n 0) 200).toNat (fun _ _ => false) → (∀ b ∈ O, H b = none) → Le H H' → K (some ⟨R, 0, none⟩) H') : rel_New.C n H K := by
  apply rel_New.of
  unfold rel_New.F
  obtain ⟨m, hm⟩ : ∃ m : Nat, min (max n 0) 200 = (m : Int) := ⟨(min (max n 0) 200).toNat, by omega⟩
  rw [hm, Int.toNat_natCast] at hK
  rw [hm]
  refine mk rfl (by omega) (by omega) ?_
  intro B hB R hR
  have hRB : R ≠ B := fun e => by subst e; simp [upd] at hR
  have hR0 : H R = none := none_of_le (.upd hB) hR
  have le0 : Le H (upd (upd H B (rep m [.pointer none])) R [.slice (some ⟨B, 0, none⟩) m m]) := (Le.upd hB).trans (.upd hR)
  refine ldL_i (by rw [rd_upd_self]; rfl) ?_
  refine ⟨fun t H' => ∃ (t' : Nat) (rs qs : List Nat), t = t' ∧ t' ≤ m ∧ Le H H' ∧ rs.length = t' ∧ qs.length = t' ∧ rd H' R 0 = some (.slice (some ⟨B, 0, none⟩) m m) ∧ (∃ cs, H' B = some cs) ∧ (∀ i, i < m → ∃ p, rd H' B i = some (.pointer p) ∧ ∀ (h : i < rs.length), p = some ⟨rs[i], 0, none⟩) ∧
      (∀ i (h : i < rs.length) (h' : i < qs.length), BR H' rs[i] qs[i] m (fun _ => false)) ∧ (R :: B :: (rs ++ qs)).Nodup ∧ ∀ b ∈ R :: B :: (rs ++ qs), H b = none, fun t _ => (m - t).toNat,
    ⟨0, [], [], rfl, by omega, le0, rfl, rfl, by rw [rd_upd_self]; rfl, ⟨_, by rw [upd_ne (Ne.symm hRB)]; unfold upd; rw [if_pos rfl]⟩, fun i hi => ⟨none, by rw [rd_upd_ne (Ne.symm hRB), rd_rep hi], fun h => by simp at h⟩, fun i h => by simp at h, by simp [hRB], fun b hb => by simp at hb; rcases hb with rfl | rfl <;> assumption⟩, ?_⟩
  rintro t H1 ⟨t, rs, qs, rfl, ht, le1, l1, l2, h1, h2, h3, h4, h5, h6⟩
  refine bcd (fun h => ?_) (fun h => ?_)
  · refine ldL_i h1 (ldL_i h1 ?_)
    refine bits_New.c (hT.le le1) fun r q H2 u2 hr hq le2 => ?_
    rw [show (min (max (m : Int) 0) 1000).toNat = m by omega] at u2
    have htm : t < m := by omega
    obtain ⟨p, hp, _⟩ := h3 t htm
    refine ⟨le2.rd h1, ?_⟩
    refine idx htm ?_
    refine nil ?_
    obtain ⟨cs, h2⟩ := h2
    have hBq : B ≠ q := ne_of_none (by rw [h2]; intro e; cases e) hq
    have hBr : B ≠ r := ne_of_none (by rw [h2]; intro e; cases e) hr
    have hRq : R ≠ q := ne_of_none (ne_none_of_rd h1) hq
    have hRr : R ≠ r := ne_of_none (ne_none_of_rd h1) hr
    have hg : gTab ∉ [B] := by
      have := hT.there
      intro e; simp at e; exact this (e ▸ hB)
    have mB : Mod [B] H2 (wr H2 B t (.pointer (some ⟨r, 0, none⟩))) := Mod.refl.wr (.inl (by simp))
    refine st0 (le2.rd hp) (chk (by omega) ⟨⟨t + 1, rs ++ [r], qs ++ [q], by omega, by omega, (le1.trans le2).wr hB, by simp [l1], by simp [l2], ?_, ?_, fun i hi => ?_, fun i hi hi' => ?_, ?_, fun b hb => ?_⟩, by first | omega | (dsimp only; omega)⟩)
    · rw [rd_wr_ne hRB]; exact le2.rd h1
    · exact ⟨_, by unfold wr; rw [if_pos rfl, le2 _ _ h2]; rfl⟩
    · by_cases e : i = t
      · subst e
        refine ⟨_, rd_wr_self (le2.rd hp), fun h => ?_⟩
        simp [← l1]
      · obtain ⟨p', hp', hp2⟩ := h3 i hi
        refine ⟨p', by rw [rd_wr_off e]; exact le2.rd hp', fun h => ?_⟩
        simp only [List.length_append, List.length_singleton] at h
        have hi' : i < rs.length := by omega
        rw [hp2 hi', List.getElem_append_left hi']
    · simp only [List.length_append, List.length_singleton] at hi hi'
      by_cases e : i = t
      · subst e
        have e1 : (rs ++ [r])[i] = r := by simp [← l1]
        have e2 : (qs ++ [q])[i] = q := by simp [← l2]
        simp only [e1, e2]
        exact u2.mod mB (by simpa using Ne.symm hBr) (by simpa using Ne.symm hBq) hg
      · have hi1 : i < rs.length := by omega
        have hi2 : i < qs.length := by omega
        rw [List.getElem_append_left hi1, List.getElem_append_left hi2]
        have hnd := h5
        simp only [List.nodup_cons, List.mem_cons, List.mem_append] at hnd
        exact ((h4 i hi1 hi2).le le2).mod mB (by simp; intro e; exact hnd.2.1 (.inl (e ▸ List.getElem_mem hi1))) (by simp; intro e; exact hnd.2.1 (.inr (e ▸ List.getElem_mem hi2))) hg
    · simp only [List.nodup_cons, List.mem_cons, List.mem_append, List.nodup_append] at h5
      obtain ⟨n1, n2, n3, n4, n5⟩ := h5
      have old : ∀ b, b ∈ rs ∨ b ∈ qs → b ≠ r ∧ b ≠ q := fun b hb => by
        have hb' : H1 b ≠ none := by
          rcases hb with hb | hb
          · obtain ⟨i, hi, rfl⟩ := List.mem_iff_getElem.1 hb
            exact (h4 i hi (by omega)).hr
          · obtain ⟨i, hi, rfl⟩ := List.mem_iff_getElem.1 hb
            exact (h4 i (by omega) hi).hq
        exact ⟨ne_of_none hb' hr, ne_of_none hb' hq⟩
      have hrq := u2.rq
      refine RL.nodup_of hRB (by simp; exact ⟨fun h => n1 (.inr (.inl h)), hRr⟩) (by simp; exact ⟨fun h => n1 (.inr (.inr h)), hRq⟩) (by simp; exact ⟨fun h => n2 (.inl h), hBr⟩) (by simp; exact ⟨fun h => n2 (.inr h), hBq⟩)
        (List.nodup_append.2 ⟨n3, by simp, fun a ha b hb => by simp at hb; subst hb; exact (old a (.inl ha)).1⟩) (List.nodup_append.2 ⟨n4, by simp, fun a ha b hb => by simp at hb; subst hb; exact (old a (.inr ha)).2⟩) (fun a ha b hb => ?_)
      rcases List.mem_append.1 ha with ha | ha
      · rcases List.mem_append.1 hb with hb | hb
        · exact n5 a ha b hb
        · simp at hb; subst hb; exact (old a (.inl ha)).2
      · simp at ha; subst ha
        rcases List.mem_append.1 hb with hb | hb
        · exact (old b (.inr hb)).1.symm
        · simp at hb; subst hb; exact hrq
    · rcases List.mem_cons.1 hb with rfl | hb
      · exact hR0
      rcases List.mem_cons.1 hb with rfl | hb
      · exact hB
      rcases List.mem_append.1 hb with hb | hb
      · rcases List.mem_append.1 hb with hb | hb
        · exact h6 b (by simp [hb])
        · simp at hb; subst hb; exact none_of_le le1 hr
      · rcases List.mem_append.1 hb with hb | hb
        · exact h6 b (by simp [hb])
        · simp at hb; subst hb; exact none_of_le le1 hq
  · obtain rfl : t = m := by omega
    refine hK R _ H1 ⟨B, rs, qs, rfl, ⟨hT.le le1, by omega, l1, l2, ⟨t, h1, Nat.le_refl _⟩, h2, fun i hi => ?_, h4, fun _ _ _ => rfl, h5, fun hb => hT.there (h6 _ hb)⟩⟩ h6 le1
    obtain ⟨p, hp, hp2⟩ := h3 i (by omega)
    rw [hp, hp2 hi]

theorem rel_Rel_Copy.c {R n : Nat} {M : Nat → Nat → Bool} {O : List Nat} {H : Hp} {K : Option Addr → Hp → Prop} (hu : RLO H R O n M)
    (hK : ∀ R' O' H', RLO H' R' O' n M → (∀ b ∈ O', H b = none) → Le H H' → K (some ⟨R', 0, none⟩) H') : rel_Rel_Copy.C (some ⟨R, 0, none⟩) H K := by
  apply rel_Rel_Copy.of
  refine rel_Rel_Len.c hu ?_
  have hlim := hu.lim
  refine rel_New.c hu.tz fun R' O' H1 u1 hO le1 => ?_
  rw [show (min (max (n : Int) 0) 200).toNat = n by omega] at u1
  have hap := hu.apart hO
  have v1 := hu.le le1
  have hsup : ∀ i y, i < n → n ≤ y → M i y = false := fun i y _ hy => hu.out i y (.inr hy)
  obtain ⟨B', rs', qs', rfl, u1⟩ := u1
  obtain ⟨c1, hd1, _⟩ := u1.hd
  refine nil ?_
  refine ldL_i hd1 ?_
  refine ⟨fun t H' => ∃ t' : Nat, t = t' ∧ t' ≤ n ∧ Le H H' ∧ RLO H' R O n M ∧ RL H' R' B' rs' qs' n (fun x y => decide (x < t') && M x y), fun t _ => (n - t).toNat, ⟨0, rfl, by omega, le1, v1, u1.congr fun a b => by simp⟩, ?_⟩
  rintro t H2 ⟨t, rfl, ht, le2, v2, u2⟩
  refine bcd (fun h => ?_) (fun h => ?_)
  · have htn : t < n := by omega
    refine u2.at rfl htn ?_
    have v2' := v2
    obtain ⟨B, rs, qs, rfl, v2⟩ := v2
    refine v2.at rfl htn ?_
    have hq : qs[t]'(by rw [v2.lq]; exact htn) ∉ [qs'[t]'(by rw [u2.lq]; exact htn)] := by
      intro e; simp at e
      exact hap.2.1 _ (v2.mem htn) (by rw [e]; exact u2.mem htn)
    refine bits_Row_Or.c (u2.br htn) (v2.br htn) hq fun H3 u3 m3 => ?_
    have hq' : ∀ b ∈ [qs'[t]'(by rw [u2.lq]; exact htn)], b ∈ R' :: B' :: (rs' ++ qs') := fun b hb => by simp at hb; subst hb; exact u2.mem htn
    refine chk (by omega) ⟨⟨t + 1, by omega, by omega, m3.le le2 fun b hb => hO b (hq' b hb), v2'.mod m3 (fun b hb => hap.1 b (hq' b hb)) (by simpa using (u2.br htn).gq.symm), ?_⟩, by first | omega | (dsimp only; omega)⟩
    refine (u2.setRow htn u3 m3).congr fun x y => ?_
    by_cases hx : x = t
    · subst hx
      rw [if_pos rfl]
      unfold orB
      by_cases hy : y < n
      · simp [hy]
      · have := hsup x y htn (by omega); simp [this]
    · rw [if_neg hx]
      rw [decide_eq_decide.2 (show x < t + 1 ↔ x < t by omega)]
  · obtain rfl : t = n := by omega
    refine hK R' _ H2 ⟨B', rs', qs', rfl, u2.congr fun a b => ?_⟩ hO le2
    by_cases ha : a < t
    · simp [ha]
    · have := v2.out a b (.inl (by omega)); simp [this]

theorem RLO.sup {H : Hp} {R : Nat} {n : Nat} {M : Nat → Nat → Bool} {O : List Nat} (h : RLO H R O n M) : Sup M n := h.out

theorem rel_Rel_Closure.c {R n : Nat} {M : Nat → Nat → Bool} {O : List Nat} {H : Hp} {K : Option Addr → Hp → Prop} (hu : RLO H R O n M)
    (hK : ∀ R' O' H', RLO H' R' O' n (clo M n) → (∀ b ∈ O', H b = none) → Le H H' → K (some ⟨R', 0, none⟩) H') : rel_Rel_Closure.C (some ⟨R, 0, none⟩) H K := by
  apply rel_Rel_Closure.of
  have hlim := hu.lim
  refine rel_Rel_Copy.c hu fun R' O' H1 u1 hO le1 => ?_
  obtain ⟨B', rs', qs', rfl, u1⟩ := u1
  obtain ⟨c1, hd1, _⟩ := u1.hd
  refine nil ?_
  refine ldL_i hd1 ?_
  refine ⟨fun t H' => ∃ k : Nat, t = k ∧ k ≤ n ∧ Le H H' ∧ RL H' R' B' rs' qs' n (cloK M n k), fun t _ => (n - t).toNat, ⟨0, rfl, by omega, le1, u1⟩, ?_⟩
  rintro t H2 ⟨k, rfl, hk, le2, u2⟩
  refine bcd (fun h => ?_) (fun h => ?_)
  · have hkn : k < n := by omega
    obtain ⟨c2, hd2, _⟩ := u2.hd
    refine nil ?_
    refine ldL_i hd2 ?_
    refine ⟨fun t H' => ∃ a : Nat, t = a ∧ a ≤ n ∧ Le H H' ∧ RL H' R' B' rs' qs' n (cloA (cloK M n k) k a), fun t _ => (n - t).toNat, ⟨0, rfl, by omega, le2, u2⟩, ?_⟩
    rintro t H3 ⟨a, rfl, ha, le3, u3⟩
    refine bcd (fun h => ?_) (fun h => ?_)
    · have han : a < n := by omega
      have o3 : RLO H3 R' _ n _ := ⟨B', rs', qs', rfl, u3⟩
      refine rel_Rel_Has.c o3 ?_
      rw [hasM_nat]
      have e0 : cloA (cloK M n k) k (a + 1) = if cloA (cloK M n k) k a a k then fun x y => if x = a then cloA (cloK M n k) k a a y || cloA (cloK M n k) k a k y else cloA (cloK M n k) k a x y else cloA (cloK M n k) k a := rfl
      refine bc_i (fun hh => ?_) (fun hh => ?_)
      · rw [if_pos hh] at e0
        refine u3.at rfl han ?_
        refine u3.at rfl hkn ?_
        by_cases hak : a = k
        · subst hak
          refine bits_Row_Or.self (u3.br han) fun H4 le4 => ?_
          refine chk (by omega) ⟨⟨a + 1, by omega, by omega, le3.trans le4, ?_⟩, by first | omega | (dsimp only; omega)⟩
          refine (u3.mod (O := []) le4.mod (by simp) (by simp)).congr fun x y => ?_
          rw [e0]
          by_cases hx : x = a
          · subst hx; simp
          · simp only [if_neg hx]
        · have hq : qs'[k]'(by rw [u3.lq]; exact hkn) ∉ [qs'[a]'(by rw [u3.lq]; exact han)] := by
            intro e; simp at e
            have hnd := u3.nd
            simp only [List.nodup_cons, List.nodup_append] at hnd
            exact hak (nodup_inj hnd.2.2.2.1 _ _ e.symm)
          refine bits_Row_Or.c (u3.br han) (u3.br hkn) hq fun H4 u4 m4 => ?_
          refine chk (by omega) ⟨⟨a + 1, by omega, by omega, m4.le le3 fun b hb => by simp at hb; subst hb; exact hO _ (u3.mem han), ?_⟩, by first | omega | (dsimp only; omega)⟩
          refine (u3.setRow han u4 m4).congr fun x y => ?_
          rw [e0]
          by_cases hx : x = a
          · subst hx
            simp only [if_true]
            unfold orB
            by_cases hy : y < n
            · simp [hy]
            · have := o3.out k y (.inr (by omega)); simp [this]
          · simp only [if_neg hx]
      · rw [if_neg (by rw [hh]; simp)] at e0
        exact chk (by omega) ⟨⟨a + 1, by omega, by omega, le3, by rw [e0]; exact u3⟩, by first | omega | (dsimp only; omega)⟩
    · obtain rfl : a = n := by omega
      exact chk (by omega) ⟨⟨k + 1, by omega, by omega, le3, u3⟩, by first | omega | (dsimp only; omega)⟩
  · obtain rfl : k = n := by omega
    exact hK R' _ H2 ⟨B', rs', qs', rfl, u2⟩ hO le2

def sameM (M N : Nat → Nat → Bool) (n : Nat) : Bool := (List.range n).all fun a => sameB (M a) (N a) n
theorem sameM_iff {M N : Nat → Nat → Bool} {n : Nat} : sameM M N n = true ↔ ∀ a b, a < n → b < n → M a b = N a b := by
  unfold sameM
  rw [List.all_eq_true]
  constructor
  · intro h a b ha hb; exact sameB_iff.1 (h a (by simpa using ha)) b hb
  · intro h a ha; exact sameB_iff.2 fun b hb => h a b (by simpa using ha) hb
theorem sameM_sup {M N : Nat → Nat → Bool} {n : Nat} (hM : Sup M n) (hN : Sup N n) : sameM M N n = true ↔ M = N := by
  rw [sameM_iff]
  constructor
  · intro h
    funext a b
    by_cases ha : a < n
    · by_cases hb : b < n
      · exact h a b ha hb
      · rw [hM a b (.inr (by omega)), hN a b (.inr (by omega))]
    · rw [hM a b (.inl (by omega)), hN a b (.inl (by omega))]
  · intro h a b _ _; rw [h]
theorem rel_Rel_same.c {R R' n : Nat} {M N : Nat → Nat → Bool} {O O' : List Nat} {H : Hp} {K : Bool → Hp → Prop} (hu : RLO H R O n M) (hv : RLO H R' O' n N) (hK : K (sameM M N n) H) : rel_Rel_same.C (some ⟨R, 0, none⟩) (some ⟨R', 0, none⟩) H K := by
  apply rel_Rel_same.of
  have hlim := hu.lim
  obtain ⟨B, rs, qs, rfl, u⟩ := hu
  obtain ⟨B', rs', qs', rfl, v⟩ := hv
  obtain ⟨c, hd, _⟩ := u.hd
  refine nil ?_
  refine ldL_i hd ?_
  refine ⟨fun t Hx => ∃ t' : Nat, t = t' ∧ t' ≤ n ∧ H = Hx ∧ ∀ a, a < t' → sameB (M a) (N a) n = true, fun t _ => (n - t).toNat, ⟨0, rfl, by omega, rfl, fun a h => by omega⟩, ?_⟩
  rintro t _ ⟨t, rfl, ht, rfl, hs⟩
  refine bcd (fun h => ?_) (fun h => ?_)
  · have htn : t < n := by omega
    refine u.at rfl htn ?_
    refine v.at rfl htn ?_
    refine bits_Row_Same.c (u.br htn) (v.br htn) ?_
    rw [decide_eq_true rfl, Bool.true_and]
    refine bcn (fun h => ?_) (fun h => ?_)
    · have : sameM M N n = false := by
        cases e : sameM M N n with
        | false => rfl
        | true =>
          unfold sameM at e
          rw [List.all_eq_true] at e
          rw [e t (by simpa using htn)] at h; cases h
      rwa [this] at hK
    · exact chk (by omega) ⟨⟨t + 1, by omega, by omega, rfl, fun a ha => by
        by_cases e : a = t
        · subst e; exact h
        · exact hs a (by omega)⟩, by first | omega | (dsimp only; omega)⟩
  · have : sameM M N n = true := by
      unfold sameM; rw [List.all_eq_true]; intro a ha; exact hs a (by simp at ha; omega)
    rwa [this] at hK
theorem rel_Rel_IsTransitive.c {R n : Nat} {M : Nat → Nat → Bool} {O : List Nat} {H : Hp} {K : Bool → Hp → Prop} (hu : RLO H R O n M) (hK : ∀ H', Le H H' → K (sameM M (clo M n) n) H') : rel_Rel_IsTransitive.C (some ⟨R, 0, none⟩) H K := by
  apply rel_Rel_IsTransitive.of
  refine bcd (fun h => by cases h) fun _ => ?_
  refine rel_Rel_Closure.c hu fun R' O' H1 u1 _ le1 => ?_
  exact rel_Rel_same.c (hu.le le1) u1 (hK H1 le1)
theorem trB_iff {M : Nat → Nat → Bool} {n : Nat} (h : Sup M n) : sameM M (clo M n) n = true ↔ Tr M := by
  rw [sameM_sup h (clo_sup h)]
  constructor
  · intro e; rw [e]; exact clo_tr h
  · intro e; exact (clo_of_tr h e).symm
end Go.Proofs.YteijgmmjgbgffaaDoor
namespace Go.Proofs.YteijgmmjgbgffaaDoor
open Go.V
/-! ### Through all pairs -/
theorem rel_each_rule {cap R n : Nat} {M : Nat → Nat → Bool} {O : List Nat} {H : Hp} {G : Int → Int → Hp → (Al → Hp → Prop) → Prop} {K : Al → Hp → Prop} (I : Nat → Nat → List Nat → Hp → Prop) (S0 : List Nat) (hb : RLO H R O n M) (hc : rd H cap 0 = some (.pointer (some ⟨R, 0, none⟩)))
    (hcS : cap ∉ S0) (hS : ∀ b ∈ S0, b ∉ O) (hg : gTab ∉ S0) (h0 : I 0 0 S0 H)
    (hle : ∀ a b S Hx Hy, I a b S Hx → Le Hx Hy → I a b S Hy)
    (hex : ∀ a b S Hx, I a b S Hx → ∀ x ∈ S, Hx x ≠ none)
    (hskip : ∀ a b S Hx, M a b = false → I a b S Hx → I a (b + 1) S Hx)
    (hrow : ∀ a i S Hx, n ≤ i → I a i S Hx → I (a + 1) 0 S Hx)
    (hstep : ∀ a b S Hx Kb, a < n → b < n → M a b = true → I a b S Hx → (∀ S' H', I a (b + 1) S' H' → Mod S Hx H' → (∀ x ∈ S', x ∈ S ∨ Hx x = none) → Kb Al.on H') → (∀ j up H', K (Al.off j up) H' → Kb (Al.off j up) H') → G (a : Nat) (b : Nat) Hx Kb)
    (hend : ∀ S Hx, I n 0 S Hx → K Al.on Hx) : rel_Rel_Each_1.I cap H G K := by
  apply rel_Rel_Each_1.of
  intro Lq b4 h4
  have le1 : Le H (upd H b4 [yv Lq]) := .upd h4
  have r4 : rd (upd H b4 [yv Lq]) b4 0 = some (yv Lq) := by rw [rd_upd_self]; rfl
  have i1 := hle _ _ _ _ _ h0 le1
  have hb4 : b4 ∉ S0 := fun h => hex _ _ _ _ h0 _ h h4
  have hb4O : b4 ∉ O := fun h => hb.there _ h h4
  refine ldP_i (le1.rd hc) ?_
  refine rel_Rel_Len.c (hb.le le1) ?_
  have hlim := hb.lim
  have hb1 := hb.le le1
  have hc1 := le1.rd hc
  generalize upd H b4 [yv Lq] = H1 at *
  clear h0 hb hc le1
  refine ⟨fun t Hx => ∃ (a : Nat) (S : List Nat), t = a ∧ a ≤ n ∧ I a 0 S Hx ∧ RLO Hx R O n M ∧ rd Hx cap 0 = some (.pointer (some ⟨R, 0, none⟩)) ∧ rd Hx b4 0 = some (yv Lq) ∧ cap ∉ S ∧ b4 ∉ S ∧ gTab ∉ S ∧ ∀ x ∈ S, x ∉ O, fun t _ => (n - t).toNat,
    ⟨0, S0, rfl, by omega, i1, hb1, hc1, r4, hcS, hb4, hg, hS⟩, ?_⟩
  rintro t H2 ⟨a, S, rfl, ha, hI, u2, c2, r2, s1, s2, s3, s4⟩
  refine bcd (fun h => ?_) (fun h => ?_)
  · have han : a < n := by omega
    intro b5 h5
    have r5 : rd (upd H2 b5 [.int .i64 0]) b5 0 = some (.int .i64 0) := by rw [rd_upd_self]; rfl
    refine st r5 ?_
    have le3 : Le H2 (wr (upd H2 b5 [.int .i64 0]) b5 0 (.int .i64 (a : Int))) := (Le.upd h5).wr h5
    have r5' : rd (wr (upd H2 b5 [.int .i64 0]) b5 0 (.int .i64 (a : Int))) b5 0 = some (.int .i64 (a : Int)) := rd_wr_self r5
    have hb5 : b5 ∉ S := fun h => hex _ _ _ _ hI _ h h5
    generalize wr (upd H2 b5 [.int .i64 0]) b5 0 (.int .i64 (a : Int)) = H3 at *
    have u3 := u2.le le3
    have ⟨B, rs, qs, hO, v3⟩ := u3
    obtain ⟨c, hd, _⟩ := v3.hd
    refine ldP_i (le3.rd c2) ?_
    refine nil ?_
    refine ldL_i hd ?_
    refine ldI_i r5' ?_
    refine idx han ?_
    refine nil ?_
    refine ldP_i (by rw [Nat.zero_add]; exact v3.ptr a (by rw [v3.lr]; exact han)) ?_
    refine bits_Row_Each.c fun cap' H4 hcap' hrc' le4 => ?_
    have br := (v3.br han).le le4
    have hq : (qs[a]'(by rw [v3.lq]; exact han)) ∈ O := by rw [hO]; exact v3.mem han
    have le34 := le3.trans le4
    show bits_Row_Each_1.I cap' H4 _ _
    refine each_rule (fun i Hx => ∃ S, I a i S Hx ∧ RLO Hx R O n M ∧ rd Hx cap 0 = some (.pointer (some ⟨R, 0, none⟩)) ∧ rd Hx b4 0 = some (yv Lq) ∧ rd Hx b5 0 = some (.int .i64 (a : Int)) ∧ Hx (qs[a]'(by rw [v3.lq]; exact han)) = H4 (qs[a]'(by rw [v3.lq]; exact han)) ∧ cap ∉ S ∧ b4 ∉ S ∧ b5 ∉ S ∧ gTab ∉ S ∧ ∀ x ∈ S, x ∉ O) br hrc'
      ⟨S, hle _ _ _ _ _ hI le34, u2.le le34, le34.rd c2, le34.rd r2, le4.rd r5', rfl, s1, s2, hb5, s3, s4⟩ ?_ ?_ ?_ ?_
    · rintro i Hx ⟨S, g1, g2, g3, g4, g5, g6, _⟩
      exact ⟨g2.tz, fun j _ _ => rd_eq g6⟩
    · rintro i Hx hs ⟨S, g1, g⟩
      exact ⟨S, hskip _ _ _ _ hs g1, g⟩
    · rintro i Hx Kb hi hs ⟨S, g1, g2, g3, g4, g5, g6, g7, g8, g9, g10, g11⟩ hon hoff
      refine ⟨_, g4, ?_⟩
      refine ldI_i g5 (.inl ⟨rfl, ?_⟩)
      refine hstep a i S Hx _ han hi hs g1 (fun S' H' k1 k2 k3 => alOn (hon H' ?_)) (fun j up H' h => hoff 0 (.off j up) H' h)
      have nS : ∀ x, Hx x ≠ none → x ∉ S → x ∉ S' := fun x hx hxS hx' => by
        rcases k3 x hx' with h | h
        · exact hxS h
        · exact hx h
      refine ⟨S', k1, g2.mod k2 (fun x hx => g11 x hx) g10, k2.rd g7 g3, k2.rd g8 g4, k2.rd g9 g5, ?_, nS _ (ne_none_of_rd g3) g7, nS _ (ne_none_of_rd g4) g8, nS _ (ne_none_of_rd g5) g9, nS _ g2.tz.there g10, fun x hx => ?_⟩
      · rw [← g6]; exact eq_of_mod k2 (fun h => g11 _ h hq) (g2.there _ hq)
      · intro hxO
        rcases k3 x hx with h | h
        · exact g11 x h hxO
        · exact g2.there _ hxO h
    · rintro i Hx hi ⟨S, g1, g2, g3, g4, g5, g6, g7, g8, g9, g10, g11⟩
      exact alOn (chk (by omega) ⟨⟨a + 1, S, by omega, by omega, hrow _ _ _ _ hi g1, g2, g3, g4, g7, g8, g10, g11⟩, by first | omega | (dsimp only; omega)⟩)
  · obtain rfl : a = n := by omega
    exact hend S H2 hI

theorem rel_Rel_Each.c {p : Option Addr} {H : Hp} {K : Value → Hp → Prop} (hK : ∀ cap H', H cap = none → rd H' cap 0 = some (.pointer p) → Le H H' → K (.func (.func rel_Rel_Each_1.num) ⟨[]⟩ ⟨[.pointer (some ⟨cap, 0, none⟩)]⟩) H') : rel_Rel_Each.C p H K := by
  apply rel_Rel_Each.of
  intro cap hcap
  exact hK cap _ hcap (by rw [rd_upd_self]; rfl) (.upd hcap)

/-- All pairs ahead of (a, b). -/
def prsTo (M : Nat → Nat → Bool) (n a b : Nat) : List (Int × Int) := ((List.range a).flatMap fun x => (els (M x) n).map fun (y : Nat) => ((x : Int), (y : Int))) ++ (els (M a) b).map fun (y : Nat) => ((a : Int), (y : Int))
def prs (M : Nat → Nat → Bool) (n : Nat) : List (Int × Int) := (List.range n).flatMap fun x => (els (M x) n).map fun (y : Nat) => ((x : Int), (y : Int))
theorem prsTo_off {M : Nat → Nat → Bool} {n a b : Nat} (h : M a b = false) : prsTo M n a (b + 1) = prsTo M n a b := by unfold prsTo; rw [els_off h]
theorem prsTo_on {M : Nat → Nat → Bool} {n a b : Nat} (h : M a b = true) : prsTo M n a (b + 1) = prsTo M n a b ++ [((a : Int), (b : Int))] := by unfold prsTo; rw [els_on h]; simp
theorem prsTo_row {M : Nat → Nat → Bool} {n a i : Nat} (h : Sup M n) (hi : n ≤ i) : prsTo M n (a + 1) 0 = prsTo M n a i := by
  unfold prsTo
  rw [List.range_succ, List.flatMap_append, els_end (fun j hj => h a j (.inr hj)) hi]
  simp [els]
theorem prs_mem {M : Nat → Nat → Bool} {n : Nat} {p : Int × Int} : p ∈ prs M n ↔ ∃ a b : Nat, a < n ∧ b < n ∧ M a b = true ∧ p = ((a : Int), (b : Int)) := by
  unfold prs
  simp only [List.mem_flatMap, List.mem_range, List.mem_map, els_mem]
  constructor
  · rintro ⟨a, ha, b, ⟨hb, hm⟩, rfl⟩; exact ⟨a, b, ha, hb, hm, rfl⟩
  · rintro ⟨a, b, ha, hb, hm, rfl⟩; exact ⟨a, ha, b, ⟨hb, hm⟩, rfl⟩

theorem rel_Rel_Pairs.c {R n : Nat} {M : Nat → Nat → Bool} {O : List Nat} {H : Hp} {K : Option Addr → Nat → Nat → Hp → Prop} (hu : RLO H R O n M)
    (hK : ∀ p l c H', Sn 2 pairC H' p l c (prs M n) → New H p → Le H H' → K p l c H') : rel_Rel_Pairs.C (some ⟨R, 0, none⟩) H K := by
  apply rel_Rel_Pairs.of
  intro m hm
  have lem : Le H (upd H m [.slice none 0 0]) := .upd hm
  have hlim := hu.lim
  have rm0 : rd (upd H m [.slice none 0 0]) m 0 = some (.slice none 0 0) := by rw [rd_upd_self]; rfl
  refine rel_Rel_Each.c fun cap H1 hcap hrc le1 => ?_
  have le01 := lem.trans le1
  have hcm : cap ≠ m := (ne_of_none (ne_none_of_rd rm0) hcap).symm
  show rel_Rel_Each_1.I cap H1 _ _
  refine rel_each_rule (fun a b S Hx => Le H Hx ∧ ∃ p l c, S = m :: blkL p ∧ rd Hx m 0 = some (.slice p l c) ∧ Buf 2 H Hx p l c ((prsTo M n a b).flatMap pairC) ∧ Apart p (some ⟨m, 0, none⟩) ∧ l ≤ a * 200 + min b n) [m] (hu.le le01) hrc
    (by simpa using hcm) (fun b hb h => by simp at hb; subst hb; exact hu.there _ h hm) (by simpa using ne_of_none hu.tz.there hm)
    ⟨le01, none, 0, 0, rfl, le1.rd rm0, by simpa [prsTo, els] using Buf.none, Apart.none, by omega⟩ ?_ ?_ ?_ ?_ ?_ ?_
  · rintro a b S Hx Hy ⟨h1, p, l, c, rfl, h2, h3, h4⟩ hle
    exact ⟨h1.trans hle, p, l, c, rfl, hle.rd h2, h3.le hle, h4⟩
  · rintro a b S Hx ⟨h1, p, l, c, rfl, h2, h3, h4⟩ x hx
    rcases List.mem_cons.1 hx with rfl | hx
    · exact ne_none_of_rd h2
    · exact h3.there (blkL_mem h3.zero hx)
  · rintro a b S Hx hs ⟨h1, p, l, c, rfl, h2, h3, h4, h5⟩
    exact ⟨h1, p, l, c, rfl, h2, by rw [prsTo_off hs]; exact h3, h4, by omega⟩
  · rintro a i S Hx hi ⟨h1, p, l, c, rfl, h2, h3, h4, h5⟩
    exact ⟨h1, p, l, c, rfl, h2, by rw [prsTo_row hu.sup hi]; exact h3, h4, by rw [Nat.add_mul]; omega⟩
  · rintro a b S Hx Kb ha hb hs ⟨h1, p, l, c, rfl, h2, h3, h4, h5⟩ hon _
    refine ldL_i h2 ?_
    have hbd : a * 200 ≤ 40000 := by have := Nat.mul_le_mul_right 200 (show a ≤ 200 by omega); omega
    refine h3.pushM (new := [.int .i64 (a : Int), .int .i64 (b : Int)]) rfl (by decide) rfl (by decide) rfl rfl (by simp [te_api_Pair]; omega) (fun p' c' H2 hB2 hp hM => ?_) h1
    have hmb : m ∉ blkL p := fun h => h4 m 0 0 (blkL_mem h3.zero h) rfl
    have le2 : Le H H2 := hM.le h1 fun b hb => h3.fr b 0 (blkL_mem h3.zero hb)
    have rd2 := hM.rd hmb h2
    have ap : Apart p' (some ⟨m, 0, none⟩) := by
      rcases hp with rfl | hp
      · exact h4
      · intro b o o' e e'
        simp only [Option.some.injEq, Addr.mk.injEq] at e'
        obtain ⟨rfl, _⟩ := e'
        exact ne_none_of_rd h2 (hp m o e)
    refine st rd2 (hon (m :: blkL p') _ ⟨le2.wr hm, p', l + 1, c', rfl, rd_wr_self rd2, ?_, ap, by omega⟩ ?_ ?_)
    · rw [prsTo_on hs, List.flatMap_append]
      exact hB2.mod (O := [m]) (Mod.refl.wr (.inl (by simp))) fun b o e hb => by simp at hb; subst hb; exact ap _ _ _ e rfl
    · exact (hM.mono fun x hx => List.mem_cons_of_mem _ hx).wr (.inl (by simp))
    · intro x hx
      rcases List.mem_cons.1 hx with rfl | hx
      · exact .inl (by simp)
      · rcases hp with rfl | hp
        · exact .inl (List.mem_cons_of_mem _ hx)
        · exact .inr (hp x 0 (blkL_mem hB2.zero hx))
  · rintro S Hx ⟨h1, p, l, c, rfl, h2, h3, h4, h5⟩
    have e : prsTo M n n 0 = prs M n := by simp [prsTo, prs, els]
    rw [e] at h3
    exact alOn (ldL_i h2 (hK p l c Hx (h3.sn (f := pairC) (fun _ => rfl) (by decide)) h3.fr h1))

/-- What is kept. -/
def keepB (keep : List Bool) (i : Nat) : Bool := keep.getD i false
def onlyM (M : Nat → Nat → Bool) (keep : List Bool) : Nat → Nat → Bool := fun a b => M a b && keepB keep a && keepB keep b
/-- Pairs that are kept, as far as (a, b). -/
def onlyTo (M : Nat → Nat → Bool) (keep : List Bool) (a b : Nat) : Nat → Nat → Bool := fun x y => onlyM M keep x y && (decide (x < a) || (decide (x = a) && decide (y < b)))
end Go.Proofs.YteijgmmjgbgffaaDoor
namespace Go.Proofs.YteijgmmjgbgffaaDoor
open Go.V
/-! ### Of pairs; joined -/
def okP (l : List (Int × Int)) (n : Nat) : Bool := l.all fun p => decide (0 ≤ p.1 ∧ p.1 < (n : Int) ∧ 0 ≤ p.2 ∧ p.2 < (n : Int))
def ofM (l : List (Int × Int)) (n : Nat) : Nat → Nat → Bool := fun x y => decide (x < n ∧ y < n) && l.any fun p => decide (p.1 = (x : Int) ∧ p.2 = (y : Int))
theorem ofM_snoc {l : List (Int × Int)} {n : Nat} {p : Int × Int} : ofM (l ++ [p]) n = addM (ofM l n) n p.1 p.2 := by
  funext x y
  unfold ofM addM
  rw [List.any_append]
  rw [Bool.eq_iff_iff]
  simp
  constructor
  · rintro ⟨h1, h2 | h2⟩
    · exact .inl ⟨h1, h2⟩
    · exact .inr ⟨h2.1.symm, h2.2.symm, h1.1, h1.2⟩
  · rintro (⟨h1, h2⟩ | ⟨h2, h3, h4, h5⟩)
    · exact ⟨h1, .inl h2⟩
    · exact ⟨⟨h4, h5⟩, .inr ⟨h2.symm, h3.symm⟩⟩
theorem ofM_sup (l : List (Int × Int)) (n : Nat) : Sup (ofM l n) n := fun x y h => by
  unfold ofM
  have : ¬ (x < n ∧ y < n) := by omega
  rw [decide_eq_false this, Bool.false_and]
theorem okP_snoc {l : List (Int × Int)} {n : Nat} {p : Int × Int} : okP (l ++ [p]) n = (okP l n && decide (0 ≤ p.1 ∧ p.1 < (n : Int) ∧ 0 ≤ p.2 ∧ p.2 < (n : Int))) := by unfold okP; rw [List.all_append]; simp
theorem okP_take {l : List (Int × Int)} {n i : Nat} (h : okP (l.take i) n = false) : okP l n = false := by
  unfold okP at *
  rw [List.all_eq_false] at *
  obtain ⟨x, hx, h⟩ := h
  exact ⟨x, List.mem_of_mem_take hx, h⟩

theorem rel_Of.c {n : Int} {lp : Option Addr} {ll lc : Nat} {l : List (Int × Int)} {H : Hp} {K : Option Addr → Int → Hp → Prop} (hl : Sn 2 pairC H lp ll lc l) (hll : l.length ≤ 1000000000) (hT : Tz H)
    (h1 : (n < 0 ∨ 200 < n) → K none 11 H) (h2 : ∀ H', 0 ≤ n → n ≤ 200 → okP l n.toNat = false → Le H H' → K none 10 H')
    (h3 : ∀ R O H', 0 ≤ n → n ≤ 200 → okP l n.toNat = true → RLO H' R O n.toNat (ofM l n.toNat) → (∀ b ∈ O, H b = none) → Le H H' → K (some ⟨R, 0, none⟩) 0 H') : rel_Of.C n lp ll lc H K := by
  apply rel_Of.of
  have hlen := hl.len
  refine bcd (fun h => h1 (.inl h)) (fun g1 => bcd (fun h => h1 (.inr h)) (fun g2 => ?_))
  obtain ⟨n, rfl⟩ : ∃ k : Nat, n = k := ⟨n.toNat, by omega⟩
  rw [Int.toNat_natCast] at h2 h3
  have h2 := fun H' => h2 H' (by omega) (by omega)
  have h3 := fun R O H' => h3 R O H' (by omega) (by omega)
  refine rel_New.c hT fun R O H1 u1 hO le1 => ?_
  rw [show (min (max (n : Int) 0) 200).toNat = n by omega] at u1
  refine ⟨fun t H' => ∃ i : Nat, t = i ∧ i ≤ ll ∧ Le H H' ∧ RLO H' R O n (ofM (l.take i) n) ∧ okP (l.take i) n = true, fun t _ => (ll - t).toNat, ⟨0, rfl, by omega, le1, u1.congr fun x y => by simp [ofM], by simp [okP]⟩, ?_⟩
  rintro t H2 ⟨i, rfl, hi, le2, u2, ok2⟩
  refine bcd (fun h => ?_) (fun h => ?_)
  · have hil : i < l.length := by omega
    have hts := List.take_succ_eq_append_getElem hil
    refine snP (hl.le le2) (by omega) (by omega) fun hi' => newP fun b hb => ?_
    simp only [Int.toNat_natCast]
    have leb : Le H2 (upd H2 b [.int .i64 l[i].1, .int .i64 l[i].2]) := .upd hb
    have r0 : rd (upd H2 b [.int .i64 l[i].1, .int .i64 l[i].2]) b 0 = some (.int .i64 l[i].1) := rd_upd_self
    have r1 : rd (upd H2 b [.int .i64 l[i].1, .int .i64 l[i].2]) b 1 = some (.int .i64 l[i].2) := rd_upd_self
    have hbO : b ∉ O := fun h => u2.there _ h hb
    have u3 := u2.le leb
    have le3 := le2.trans leb
    generalize upd H2 b [.int .i64 l[i].1, .int .i64 l[i].2] = H3 at *
    have bad : okP (l.take (i + 1)) n = false → K none 10 H3 := fun h => h2 H3 (okP_take h) le3
    have okn := okP_snoc (l := l.take i) (n := n) (p := l[i])
    rw [← hts, ok2, Bool.true_and] at okn
    refine ldI_i r0 ?_
    refine rel_Rel_there.c u3 ?_
    refine bcn (fun h => bad (by rw [okn]; have := of_decide_eq_false h; exact decide_eq_false fun g => this ⟨g.1, g.2.1⟩)) (fun ha => ?_)
    refine ldI_i r1 ?_
    refine rel_Rel_there.c u3 ?_
    refine bcn (fun h => bad (by rw [okn]; have := of_decide_eq_false h; exact decide_eq_false fun g => this g.2.2)) (fun hb' => ?_)
    have ha := of_decide_eq_true ha
    have hb' := of_decide_eq_true hb'
    have hadd := ofM_snoc (l := l.take i) (n := n) (p := l[i])
    rw [← hts] at hadd
    generalize l[i] = p at *
    obtain ⟨x, y⟩ := p
    simp only at *
    obtain ⟨x, rfl⟩ : ∃ k : Nat, x = k := ⟨x.toNat, by omega⟩
    obtain ⟨y, rfl⟩ : ∃ k : Nat, y = k := ⟨y.toNat, by omega⟩
    have hx : x < n := by omega
    have ⟨B, rs, qs, hOe, v3⟩ := u3
    obtain ⟨c, hd, _⟩ := v3.hd
    unfold rel_Of.k2
    refine nil ?_
    refine ldL_i hd ?_
    refine ldI_i r0 ?_
    refine idx hx ?_
    refine nil ?_
    refine ldP_i (by rw [Nat.zero_add]; exact v3.ptr x (by rw [v3.lr]; exact hx)) ?_
    refine ldI_i r1 ?_
    refine bits_Row_Put.c (v3.br hx) fun H4 u4 m4 _ => ?_
    have hq : ∀ b ∈ [qs[x]'(by rw [v3.lq]; exact hx)], b ∈ O := fun b hb => by simp at hb; subst hb; rw [hOe]; exact v3.mem hx
    refine chk (by omega) ⟨⟨i + 1, by omega, by omega, m4.le le3 fun b hb => hO b (hq b hb), ⟨B, rs, qs, hOe, ?_⟩, by rw [okn]; exact decide_eq_true ⟨by omega, by omega, by omega, by omega⟩⟩, by first | omega | (dsimp only; omega)⟩
    have := v3.setRow hx u4 m4
    rw [putRow hx] at this
    rw [hadd]; exact this
  · have e1 : l.take i = l := List.take_of_length_le (by omega)
    rw [e1] at u2 ok2
    exact h3 R O H2 ok2 u2 hO le2

/-- The ways by one pair more. -/
theorem clo_add {M : Nat → Nat → Bool} {n a b : Nat} (hs : Sup M n) (ht : Tr M) (ha : a < n) (hb : b < n) (x y : Nat) :
    clo (addM M n a b) n x y = (M x y || ((decide (x = a) || M x a) && (decide (y = b) || M b y))) := by
  have sA : Sup (addM M n a b) n := fun u v huv => by
    unfold addM
    rw [hs u v huv]
    have : ¬ ((u : Int) = (a : Int) ∧ (v : Int) = (b : Int) ∧ u < n ∧ v < n) := by omega
    rw [decide_eq_false this]; rfl
  have hadd : ∀ u v, addM M n a b u v = true ↔ M u v = true ∨ (u = a ∧ v = b) := fun u v => by
    unfold addM
    rw [Bool.or_eq_true, decide_eq_true_eq]
    constructor
    · rintro (h | h)
      · exact .inl h
      · exact .inr ⟨by omega, by omega⟩
    · rintro (h | ⟨rfl, rfl⟩)
      · exact .inl h
      · exact .inr ⟨rfl, rfl, ha, hb⟩
  have htr : Tr fun x y => (M x y || ((decide (x = a) || M x a) && (decide (y = b) || M b y))) := by
    intro u v w h1 h2
    simp only [Bool.or_eq_true, Bool.and_eq_true, decide_eq_true_eq] at h1 h2 ⊢
    rcases h1 with h1 | ⟨h1, h1'⟩
    · rcases h2 with h2 | ⟨h2, h2'⟩
      · exact .inl (ht _ _ _ h1 h2)
      · refine .inr ⟨?_, h2'⟩
        rcases h2 with rfl | h2
        · exact .inr h1
        · exact .inr (ht _ _ _ h1 h2)
    · rcases h2 with h2 | ⟨h2, h2'⟩
      · refine .inr ⟨h1, ?_⟩
        rcases h1' with rfl | h1'
        · exact .inr h2
        · exact .inr (ht _ _ _ h1' h2)
      · exact .inr ⟨h1, h2'⟩
  apply bool_ext
  constructor
  · intro e
    exact clo_least sA htr (fun u v h => by
      simp only [Bool.or_eq_true, Bool.and_eq_true, decide_eq_true_eq]
      rcases (hadd u v).1 h with h | ⟨h, h'⟩
      · exact .inl h
      · exact .inr ⟨.inl h, .inl h'⟩) e
  · intro e
    simp only [Bool.or_eq_true, Bool.and_eq_true, decide_eq_true_eq] at e
    have one : ∀ {u v}, addM M n a b u v = true → clo (addM M n a b) n u v = true := fun h => clo_ge sA h
    have tr := clo_tr sA
    have hab := one ((hadd a b).2 (.inr ⟨rfl, rfl⟩))
    rcases e with e | ⟨e1, e2⟩
    · exact one ((hadd x y).2 (.inl e))
    · have h1 : clo (addM M n a b) n x b = true := by
        rcases e1 with rfl | e1
        · exact hab
        · exact tr _ _ _ (one ((hadd _ _).2 (.inl e1))) hab
      rcases e2 with rfl | e2
      · exact h1
      · exact tr _ _ _ h1 (one ((hadd _ _).2 (.inl e2)))
theorem addM_sup {M : Nat → Nat → Bool} {n : Nat} {a b : Int} (hs : Sup M n) : Sup (addM M n a b) n := fun u v huv => by
  unfold addM
  rw [hs u v huv]
  have : ¬ ((u : Int) = a ∧ (v : Int) = b ∧ u < n ∧ v < n) := by omega
  rw [decide_eq_false this]; rfl

def inN (n : Nat) (a b : Int) : Bool := decide (0 ≤ a ∧ a < (n : Int) ∧ 0 ≤ b ∧ b < (n : Int))
/-- Joined; whether anything became so. -/
def jM (M : Nat → Nat → Bool) (n : Nat) (a b : Int) : Nat → Nat → Bool := if inN n a b then clo (addM M n a b) n else M
def jB (M : Nat → Nat → Bool) (n : Nat) (a b : Int) : Bool := inN n a b && !sameM (jM M n a b) M n
theorem jM_sup {M : Nat → Nat → Bool} {n : Nat} {a b : Int} (hs : Sup M n) : Sup (jM M n a b) n := by
  unfold jM
  split
  · exact clo_sup (addM_sup hs)
  · exact hs

end Go.Proofs.YteijgmmjgbgffaaDoor
namespace Go.Proofs.YteijgmmjgbgffaaDoor
open Go.V
/-! ### What the laws of relations start with -/
theorem sn_lit2 {H : Hp} {b : Nat} {x y z w : Int} : Sn 2 pairC (upd H b [.int .i64 x, .int .i64 y, .int .i64 z, .int .i64 w]) (some ⟨b, 0, none⟩) 2 2 [(x, y), (z, w)] :=
  ⟨rfl, Nat.le_refl _, .inr ⟨b, 0, rfl, fun i hi j v e => by
    rw [rd_upd_self]
    match i, hi with
    | 0, _ => match j, e with
      | 0, e => simp [pairC] at e; subst e; rfl
      | 1, e => simp [pairC] at e; subst e; rfl
      | j + 2, e => simp [pairC] at e
    | 1, _ => match j, e with
      | 0, e => simp [pairC] at e; subst e; rfl
      | 1, e => simp [pairC] at e; subst e; rfl
      | j + 2, e => simp [pairC] at e⟩⟩
theorem sn_lit1 {H : Hp} {b : Nat} {x y : Int} : Sn 2 pairC (upd H b [.int .i64 x, .int .i64 y]) (some ⟨b, 0, none⟩) 1 1 [(x, y)] :=
  ⟨rfl, Nat.le_refl _, .inr ⟨b, 0, rfl, fun i hi j v e => by
    rw [rd_upd_self]
    match i, hi with
    | 0, _ => match j, e with
      | 0, e => simp [pairC] at e; subst e; rfl
      | 1, e => simp [pairC] at e; subst e; rfl
      | j + 2, e => simp [pairC] at e⟩⟩

theorem sameM_refl {M : Nat → Nat → Bool} {n : Nat} : sameM M M n = true := sameM_iff.2 fun _ _ _ _ => rfl
theorem prs_len_le (M : Nat → Nat → Bool) (n : Nat) : (prs M n).length ≤ n * n := by
  unfold prs
  rw [List.length_flatMap]
  have : ∀ l : List Nat, ((l.map fun x => ((els (M x) n).map fun (y : Nat) => ((x : Int), (y : Int))).length)).sum ≤ l.length * n := by
    intro l
    induction l with
    | nil => simp
    | cons x l ih =>
      rw [List.map_cons, List.sum_cons, List.length_cons, Nat.add_mul]
      have := els_len_le (M x) n
      rw [List.length_map]
      omega
  simpa using this (List.range n)

/-- A relation that grows stays apart from one that is. -/
theorem RLO.stay {H : Hp} {R n : Nat} {M : Nat → Nat → Bool} {O P P' : List Nat} (h : RLO H R O n M) (hd : ∀ x ∈ P, x ∉ O) (hP : ∀ x ∈ P', x ∈ P ∨ H x = none) : ∀ x ∈ P', x ∉ O := fun x hx hxO => by
  rcases hP x hx with h' | h'
  · exact hd x h' hxO
  · exact h.there x hxO h'
end Go.Proofs.YteijgmmjgbgffaaDoor
namespace Go.Proofs.YteijgmmjgbgffaaDoor
open Go.V
/-! ### The document's relations -/
structure RF (H : Hp) (m B : Nat) (bs : List Nat) (n : Nat) (M : Nat → Nat → Bool) : Prop where
  lim : n ≤ 200
  lb : bs.length = n
  hn : rd H m 0 = some (.int .i64 (n : Nat))
  hm : ∃ p c, rd H m 1 = some (.slice p n c) ∧ n ≤ c ∧ (n = 0 ∨ p = some ⟨B, 0, none⟩)
  ptr : ∀ i (h : i < bs.length), rd H B i = some (.slice (some ⟨bs[i], 0, none⟩) n n)
  row : ∀ i (h : i < bs.length) j, j < n → rd H bs[i] j = some (.bool (M i j))
  out : Sup M n
  nd : n = 0 ∨ (m :: B :: bs).Nodup
  there : ∀ b ∈ m :: B :: bs, H b ≠ none
def RFO (H : Hp) (m : Nat) (O : List Nat) (n : Nat) (M : Nat → Nat → Bool) : Prop := ∃ B bs, O = m :: B :: bs ∧ RF H m B bs n M
section
variable {H H' : Hp} {m B : Nat} {bs O P : List Nat} {n : Nat} {M M' : Nat → Nat → Bool}
theorem RF.mod (h : RF H m B bs n M) (hm : Mod O H H') (hd : ∀ b ∈ O, b ∉ m :: B :: bs) : RF H' m B bs n M := by
  have h1 : m ∉ O := fun hb => hd m hb (by simp)
  have h2 : B ∉ O := fun hb => hd B hb (by simp)
  have h3 : ∀ i (hi : i < bs.length), bs[i] ∉ O := fun i hi hb => hd _ hb (by simp)
  obtain ⟨p, c, g1, g2⟩ := h.hm
  refine ⟨h.lim, h.lb, hm.rd h1 h.hn, ⟨p, c, hm.rd h1 g1, g2⟩, fun i hi => hm.rd h2 (h.ptr i hi), fun i hi j hj => hm.rd (h3 i hi) (h.row i hi j hj), h.out, h.nd, fun b hb => ?_⟩
  rw [eq_of_mod hm (fun hbO => hd b hbO hb) (h.there b hb)]
  exact h.there b hb
theorem RFO.mod (h : RFO H m O n M) (hm : Mod P H H') (hd : ∀ b ∈ P, b ∉ O) : RFO H' m O n M := by
  obtain ⟨B, bs, rfl, h⟩ := h
  exact ⟨B, bs, rfl, h.mod hm hd⟩
theorem RFO.le (h : RFO H m O n M) (hm : Le H H') : RFO H' m O n M := h.mod (P := []) hm.mod (by simp)
theorem RFO.lim (h : RFO H m O n M) : n ≤ 200 := by obtain ⟨B, bs, rfl, h⟩ := h; exact h.lim
theorem RFO.sup (h : RFO H m O n M) : Sup M n := by obtain ⟨B, bs, rfl, h⟩ := h; exact h.out
theorem RFO.there (h : RFO H m O n M) : ∀ b ∈ O, H b ≠ none := by obtain ⟨B, bs, rfl, h⟩ := h; exact h.there
theorem RFO.congr (h : RFO H m O n M) (e : ∀ a b, M' a b = M a b) : RFO H m O n M' := by
  have : M' = M := funext fun a => funext fun b => e a b
  rw [this]; exact h
theorem RF.congr (h : RF H m B bs n M) (e : ∀ a b, M' a b = M a b) : RF H m B bs n M' := by
  have : M' = M := funext fun a => funext fun b => e a b
  rw [this]; exact h
theorem RFO.apart (h : RFO H m O n M) (hP : ∀ b ∈ P, H b = none) : (∀ b ∈ P, b ∉ O) ∧ (∀ b ∈ O, b ∉ P) :=
  ⟨fun b hb hb' => h.there b hb' (hP b hb), fun b hb hb' => h.there b hb (hP b hb')⟩
theorem RF.len (h : RF H m B bs n M) {F : Int → Prop} (hF : F (n : Nat)) : NIL (some ⟨m, 0, none⟩) fun b o => ldI .i64 (rd H b o) F := nil (ldI_i h.hn hF)
theorem RFO.len (h : RFO H m O n M) {F : Int → Prop} (hF : F (n : Nat)) : NIL (some ⟨m, 0, none⟩) fun b o => ldI .i64 (rd H b o) F := by obtain ⟨B, bs, rfl, h⟩ := h; exact h.len hF
theorem RF.rowAt (h : RF H m B bs n M) {i : Int} {a : Nat} (hi : i = (a : Int)) (ha : a < n) {F : Option Addr → Nat → Nat → Prop} (hF : F (some ⟨bs[a]'(by rw [h.lb]; exact ha), 0, none⟩) n n) :
    NIL (some ⟨m, 0, none⟩) fun b o => ldL (rd H b (o + 1)) fun xp xl _ => IDX i xl fun k => NIL xp fun b' o' => ldL (rd H b' (o' + k)) F := by
  obtain ⟨p, c, g1, g2, g3⟩ := h.hm
  obtain rfl := g3.resolve_left (by omega)
  refine nil ?_
  refine ldL_i (by rw [Nat.zero_add]; exact g1) ?_
  refine idxN a hi ha ?_
  refine nil ?_
  exact ldL_i (by rw [Nat.zero_add]; exact h.ptr a (by rw [h.lb]; exact ha)) hF
theorem RF.get (h : RF H m B bs n M) {i j : Int} {a b : Nat} (hi : i = (a : Int)) (ha : a < n) (hj : j = (b : Int)) (hb : b < n) {F : Bool → Prop} (hF : F (M a b)) :
    NIL (some ⟨m, 0, none⟩) fun b o => ldL (rd H b (o + 1)) fun xp xl _ => IDX i xl fun k => NIL xp fun b' o' => ldL (rd H b' (o' + k)) fun xq xm _ => IDX j xm fun k2 => NIL xq fun b2 o2 => ldB (rd H b2 (o2 + k2)) F := by
  refine h.rowAt hi ha ?_
  refine idxN b hj hb ?_
  refine nil ?_
  exact ldB_i (by rw [Nat.zero_add]; exact h.row a (by rw [h.lb]; exact ha) b hb) hF
theorem RFO.get (h : RFO H m O n M) {i j : Int} {a b : Nat} (hi : i = (a : Int)) (ha : a < n) (hj : j = (b : Int)) (hb : b < n) {F : Bool → Prop} (hF : F (M a b)) :
    NIL (some ⟨m, 0, none⟩) fun b o => ldL (rd H b (o + 1)) fun xp xl _ => IDX i xl fun k => NIL xp fun b' o' => ldL (rd H b' (o' + k)) fun xq xm _ => IDX j xm fun k2 => NIL xq fun b2 o2 => ldB (rd H b2 (o2 + k2)) F := by
  obtain ⟨B, bs, rfl, h⟩ := h; exact h.get hi ha hj hb hF
/-- A cell written. -/
theorem RF.set (h : RF H m B bs n M) {a b : Nat} (ha : a < n) (hb : b < n) {v : Bool} : RF (wr H (bs[a]'(by rw [h.lb]; exact ha)) b (.bool v)) m B bs n (fun x y => if x = a ∧ y = b then v else M x y) := by
  have ha' : a < bs.length := by rw [h.lb]; exact ha
  have hnd := h.nd.resolve_left (by omega)
  simp only [List.nodup_cons, List.mem_cons, not_or] at hnd
  obtain ⟨⟨n1, n2⟩, n3, n4⟩ := hnd
  have e1 : m ≠ bs[a] := fun e => n2 (e ▸ List.getElem_mem ha')
  have e2 : B ≠ bs[a] := fun e => n3 (e ▸ List.getElem_mem ha')
  obtain ⟨p, c, g1, g2⟩ := h.hm
  refine ⟨h.lim, h.lb, by rw [rd_wr_ne e1]; exact h.hn, ⟨p, c, by rw [rd_wr_ne e1]; exact g1, g2⟩, fun i hi => by rw [rd_wr_ne e2]; exact h.ptr i hi, fun i hi j hj => ?_, fun x y hxy => ?_, h.nd, fun x hx => ?_⟩
  · by_cases e : i = a
    · subst e
      by_cases ej : j = b
      · subst ej; rw [rd_wr_self (h.row i hi j hj)]; simp
      · rw [rd_wr_off ej, h.row i hi j hj]; simp [ej]
    · have : bs[i] ≠ bs[a] := fun e' => e (nodup_inj n4 hi ha' e')
      rw [rd_wr_ne this, h.row i hi j hj]; simp [e]
  · rw [if_neg (by omega)]; exact h.out x y hxy
  · unfold wr
    split
    · subst_vars
      cases hH : H bs[a] with
      | none => exact absurd hH (h.there _ hx)
      | some d => intro e; cases e
    · exact h.there x hx
theorem RF.put (h : RF H m B bs n M) {i j : Int} {a b : Nat} (hi : i = (a : Int)) (ha : a < n) (hj : j = (b : Int)) (hb : b < n) {v : Bool} {F : Hp → Prop}
    (hF : ∀ H', RF H' m B bs n (fun x y => if x = a ∧ y = b then v else M x y) → Mod (m :: B :: bs) H H' → F H') :
    NIL (some ⟨m, 0, none⟩) fun b o => ldL (rd H b (o + 1)) fun xp xl _ => IDX i xl fun k => NIL xp fun b' o' => ldL (rd H b' (o' + k)) fun xq xm _ => IDX j xm fun k2 => NIL xq fun b2 o2 => ST H b2 (o2 + k2) (.bool v) F := by
  refine h.rowAt hi ha ?_
  refine idxN b hj hb ?_
  refine nil ?_
  refine st0 (h.row a (by rw [h.lb]; exact ha) b hb) ?_
  exact hF _ (h.set ha hb) (Mod.refl.wr (.inl (by simp)))
end

theorem centoref2_New.c {n : Int} {H : Hp} {K : Option Addr → Hp → Prop}
    (hK : ∀ m O H', RFO H' m O (max 0 (min n 200)).toNat (fun _ _ => false) → (∀ b ∈ O, H b = none) → Le H H' → K (some ⟨m, 0, none⟩) H') : centoref2_New.C n H K := by
  apply centoref2_New.of
  unfold centoref2_New.F
  obtain ⟨k, hk⟩ : ∃ k : Nat, max 0 (min n 200) = (k : Int) := ⟨(max 0 (min n 200)).toNat, by omega⟩
  rw [hk, Int.toNat_natCast] at hK
  rw [hk]
  intro m hm
  have le0 : Le H (upd H m [.int .i64 k, .slice none 0 0]) := .upd hm
  refine ⟨fun i H' => ∃ (i' : Nat) (bs : List Nat) (p : Option Addr) (l c : Nat), i = i' ∧ i' ≤ k ∧ bs.length = i' ∧ Le H H' ∧ rd H' m 0 = some (.int .i64 k) ∧ rd H' m 1 = some (.slice p l c) ∧ Buf 1 H H' p l c (bs.map fun b => Value.slice (some ⟨b, 0, none⟩) k k) ∧
      (∀ i (h : i < bs.length) j, j < k → rd H' bs[i] j = some (.bool false)) ∧ bs.Nodup ∧ (∀ b ∈ bs, b ≠ m ∧ p ≠ some ⟨b, 0, none⟩ ∧ H b = none ∧ H' b ≠ none) ∧ p ≠ some ⟨m, 0, none⟩, fun i _ => (k - i).toNat,
    ⟨0, [], none, 0, 0, rfl, by omega, rfl, le0, by rw [rd_upd_self]; rfl, by rw [rd_upd_self]; rfl, by simpa using Buf.none, fun i h => by simp at h, by simp, fun b hb => (by cases hb), by simp⟩, ?_⟩
  rintro i H1 ⟨i, bs, p, l, c, rfl, hi, hbl, le1, r0, r1, hB, hrow, hnd, hbs, hpm⟩
  have hl : l = i := by have := hB.1; simp at this; omega
  have hm1 : H1 m ≠ none := ne_none_of_rd r0
  refine ldI_i r0 ?_
  refine bcd (fun h => ?_) (fun h => ?_)
  · refine ldL_i r1 (ldI_i r0 ?_)
    refine mk rfl (by omega) (by omega) ?_
    intro b hb
    have le2 : Le H1 (upd H1 b (rep k [.bool false])) := .upd hb
    have rb : ∀ j, j < k → rd (upd H1 b (rep k [.bool false])) b j = some (.bool false) := fun j hj => rd_rep hj
    have hb2 : upd H1 b (rep k [.bool false]) b ≠ none := by unfold upd; rw [if_pos rfl]; intro e; cases e
    refine ⟨le2.rd r1, ?_⟩
    generalize upd H1 b (rep k [.bool false]) = H2 at *
    intro b' hb'
    have le3 : Le H2 (upd H2 b' [.slice (some ⟨b, 0, none⟩) k k]) := .upd hb'
    have le23 := le2.trans le3
    have hnew : upd H2 b' [.slice (some ⟨b, 0, none⟩) k k] b' = some [.slice (some ⟨b, 0, none⟩) k k] := by unfold upd; rw [if_pos rfl]
    have hbb : b ≠ b' := ne_of_none hb2 hb'
    refine ⟨le3.rd (le2.rd r1), ?_⟩
    have hb3 : upd H2 b' [.slice (some ⟨b, 0, none⟩) k k] b ≠ none := by rw [eq_of_le le3 hb2]; exact hb2
    generalize upd H2 b' [.slice (some ⟨b, 0, none⟩) k k] = H3 at *
    refine (hB.le le23).pushAt hnew rfl (by decide) rfl (by decide) rfl rfl (by simp [te_sl_bool]; omega) (fun p' c' H4 hB4 hp' hM => ?_) (le1.trans le23)
    have hpb : ∀ x, H1 x ≠ none → p ≠ some ⟨x, 0, none⟩ → x ∉ blkL p := fun x _ hx h => hx (blkL_mem hB.zero h)
    have hbp : b ∉ blkL p := fun h => hB.there (blkL_mem hB.zero h) hb
    have hmp : m ∉ blkL p := hpb m hm1 hpm
    have le4 : Le H H4 := hM.le (le1.trans le23) fun x hx => hB.fr x 0 (blkL_mem hB.zero hx)
    have r1' := hM.rd hmp (le23.rd r1)
    have m5 : Mod [m] H4 (wr H4 m 1 (.slice p' (l + 1) c')) := Mod.refl.wr (.inl (by simp))
    have hbm : b ≠ m := fun e => hm1 (e ▸ hb)
    have np : ∀ x, H3 x ≠ none → p ≠ some ⟨x, 0, none⟩ → p' ≠ some ⟨x, 0, none⟩ := fun x hx hpx e => by
      rcases hp' with rfl | hp'
      · exact hpx e
      · exact hx (hp' x 0 e)
    refine st r1' (chk (by omega) ⟨⟨i + 1, bs ++ [b], p', l + 1, c', by omega, by omega, by simp [hbl], le4.wr hm, ?_, rd_wr_self r1', ?_, ?_, ?_, ?_, ?_⟩, by first | omega | (dsimp only; omega)⟩)
    · rw [rd_wr_off (by decide)]; exact hM.rd hmp (le23.rd r0)
    · rw [List.map_append]
      exact hB4.mod m5 fun x o e hx => by
        simp at hx; subst hx
        have := hB4.zero _ e
        exact np x (by rw [eq_of_le le23 hm1]; exact hm1) hpm (by have h0 : o = 0 := this.1; rw [e, h0])
    · intro i' hi' j hj
      by_cases e : i' < bs.length
      · rw [List.getElem_append_left e]
        have hx := hbs _ (List.getElem_mem e)
        rw [rd_wr_ne hx.1]
        exact hM.rd (hpb _ hx.2.2.2 hx.2.1) (le23.rd (hrow i' e j hj))
      · have e1 : i' = bs.length := by simp at hi'; omega
        subst e1
        simp only [List.getElem_append_right (Nat.le_refl _), Nat.sub_self, List.getElem_singleton]
        rw [rd_wr_ne hbm]
        exact hM.rd hbp (le3.rd (rb j hj))
    · exact List.nodup_append.2 ⟨hnd, by simp, fun x hx y hy e => by simp at hy; subst hy; subst e; exact (hbs _ hx).2.2.2 hb⟩
    · intro x hx
      have wrn : ∀ x, H4 x ≠ none → wr H4 m 1 (.slice p' (l + 1) c') x ≠ none := fun x hx => by
        unfold wr
        split
        · subst_vars
          cases hH : H4 x with
          | none => exact absurd hH hx
          | some d => intro e; cases e
        · exact hx
      have hM4 : ∀ x, H3 x ≠ none → x ∉ blkL p → H4 x ≠ none := fun x hx hxp => by rw [eq_of_mod hM hxp hx]; exact hx
      rcases List.mem_append.1 hx with hx | hx
      · obtain ⟨g1, g2, g3, g4⟩ := hbs x hx
        have h3 : H3 x ≠ none := by rw [eq_of_le le23 g4]; exact g4
        exact ⟨g1, np x h3 g2, g3, wrn x (hM4 x h3 (hpb x g4 g2))⟩
      · simp at hx; subst hx
        have hpx : p ≠ some ⟨x, 0, none⟩ := fun e => hB.there e hb
        exact ⟨hbm, np x hb3 hpx, none_of_le le1 hb, wrn x (hM4 x hb3 hbp)⟩
    · exact np m (by rw [eq_of_le le23 hm1]; exact hm1) hpm
  · obtain rfl : i = k := by omega
    by_cases h0 : i = 0
    · subst h0
      have hbs0 : bs = [] := List.length_eq_zero_iff.1 hbl
      subst hbs0
      refine hK m [m, m] H1 ⟨m, [], rfl, ⟨by omega, rfl, r0, ⟨p, c, by rw [r1, hl], by omega, .inl rfl⟩, fun i h => by simp at h, fun i h => by simp at h, fun _ _ _ => rfl, .inl rfl, fun b hb => by simp at hb; subst hb; exact hm1⟩⟩ (fun b hb => by simp at hb; subst hb; exact hm) le1
    · obtain ⟨B, rfl⟩ := hB.some_of (by omega)
      have hB0 : H B = none := hB.fr B 0 rfl
      refine hK m (m :: B :: bs) H1 ⟨B, bs, rfl, ⟨by omega, hbl, r0, ⟨_, c, by rw [r1, hl], ?_, .inr rfl⟩, fun j hj => ?_, hrow, fun _ _ _ => rfl, .inr ?_, fun b hb => ?_⟩⟩ (fun b hb => ?_) le1
      · rcases hB.2 with ⟨h1, _⟩ | ⟨_, _, _, _, _, _, h5, _⟩
        · cases h1
        · omega
      · have := hB.rd (i := j) (v := .slice (some ⟨bs[j], 0, none⟩) i i) (by simp [hj])
        rwa [Nat.zero_add] at this
      · simp only [List.nodup_cons, List.mem_cons, not_or]
        refine ⟨⟨fun e => hpm (by rw [e]), fun h => (hbs m h).1 rfl⟩, fun h => (hbs B h).2.1 rfl, hnd⟩
      · rcases List.mem_cons.1 hb with rfl | hb
        · exact hm1
        rcases List.mem_cons.1 hb with rfl | hb
        · exact hB.there rfl
        · exact (hbs b hb).2.2.2
      · rcases List.mem_cons.1 hb with rfl | hb
        · exact hm
        rcases List.mem_cons.1 hb with rfl | hb
        · exact hB0
        · exact (hbs b hb).2.2.1

theorem centoref2_Rel_Is.c {m n : Nat} {M : Nat → Nat → Bool} {O : List Nat} {i : Int} {H : Hp} {K : Bool → Hp → Prop} (hu : RFO H m O n M) (hK : K (decide (0 ≤ i ∧ i < (n : Int))) H) : centoref2_Rel_Is.C (some ⟨m, 0, none⟩) i H K := by
  apply centoref2_Rel_Is.of
  refine bcd (fun h => ?_) fun h => ?_
  · refine hu.len ?_
    have e : decide (0 ≤ i ∧ i < (n : Int)) = decide (i < (n : Int)) := decide_eq_decide.2 ⟨fun g => g.2, fun g => ⟨h, g⟩⟩
    rw [← e]; exact hK
  · rwa [decide_eq_false (fun g => h g.1)] at hK
/-- Filled as far as (a, b). -/
def fillTo (M : Nat → Nat → Bool) (a b : Nat) : Nat → Nat → Bool := fun x y => M x y && (decide (x < a) || (decide (x = a) && decide (y < b)))
theorem fillTo_step {M : Nat → Nat → Bool} {a b : Nat} : (fun x y => if x = a ∧ y = b then M a b else fillTo M a b x y) = fillTo M a (b + 1) := by
  funext x y
  unfold fillTo
  by_cases e : x = a ∧ y = b
  · rw [if_pos e, e.1, e.2]; simp
  · rw [if_neg e]
    congr 1
    rw [Bool.eq_iff_iff]; simp; omega
theorem fillTo_row {M : Nat → Nat → Bool} {n a b : Nat} (hs : Sup M n) (hb : n ≤ b) : fillTo M (a + 1) 0 = fillTo M a b := by
  funext x y
  unfold fillTo
  by_cases hy : y < n
  · congr 1
    rw [Bool.eq_iff_iff]; simp; omega
  · rw [hs x y (.inr (by omega))]; simp
theorem fillTo_all {M : Nat → Nat → Bool} {n : Nat} (hs : Sup M n) : fillTo M n 0 = M := by
  funext x y
  unfold fillTo
  by_cases hx : x < n
  · simp [hx]
  · rw [hs x y (.inl (by omega))]; simp
theorem fillTo_zero {M : Nat → Nat → Bool} : fillTo M 0 0 = fun _ _ => false := by funext x y; simp [fillTo]

theorem centoref2_Rel_Copy.c {m n : Nat} {M : Nat → Nat → Bool} {O : List Nat} {H : Hp} {K : Option Addr → Hp → Prop} (hu : RFO H m O n M)
    (hK : ∀ m' O' H', RFO H' m' O' n M → (∀ b ∈ O', H b = none) → Le H H' → K (some ⟨m', 0, none⟩) H') : centoref2_Rel_Copy.C (some ⟨m, 0, none⟩) H K := by
  apply centoref2_Rel_Copy.of
  have hlim := hu.lim
  have hs := hu.sup
  refine hu.len ?_
  refine centoref2_New.c fun m' O' H1 u1 hO le1 => ?_
  rw [show (max 0 (min (n : Int) 200)).toNat = n by omega] at u1
  have hap := hu.apart hO
  refine ⟨fun t H' => ∃ a : Nat, t = a ∧ a ≤ n ∧ Le H H' ∧ RFO H' m O n M ∧ RFO H' m' O' n (fillTo M a 0), fun t _ => (n - t).toNat, ⟨0, rfl, by omega, le1, hu.le le1, by rw [fillTo_zero]; exact u1⟩, ?_⟩
  rintro t H2 ⟨a, rfl, ha, le2, v2, u2⟩
  refine v2.len ?_
  refine bcd (fun h => ?_) (fun h => ?_)
  · have han : a < n := by omega
    refine ⟨fun t H' => ∃ b : Nat, t = b ∧ b ≤ n ∧ Le H H' ∧ RFO H' m O n M ∧ RFO H' m' O' n (fillTo M a b), fun t _ => (n - t).toNat, ⟨0, rfl, by omega, le2, v2, u2⟩, ?_⟩
    rintro t H3 ⟨b, rfl, hb, le3, v3, u3⟩
    refine v3.len ?_
    refine bcd (fun h => ?_) (fun h => ?_)
    · have hbn : b < n := by omega
      obtain ⟨B', bs', rfl, u3⟩ := u3
      refine u3.rowAt rfl han ?_
      refine v3.get rfl han rfl hbn ?_
      refine idx hbn ?_
      refine nil ?_
      have hset := u3.set han hbn (v := M a b)
      rw [fillTo_step] at hset
      have mw : Mod (m' :: B' :: bs') H3 (wr H3 (bs'[a]'(by rw [u3.lb]; exact han)) b (.bool (M a b))) := Mod.refl.wr (.inl (by simp))
      refine st0 (u3.row a (by rw [u3.lb]; exact han) b hbn) ?_
      exact chk (by omega) ⟨⟨b + 1, by omega, by omega, mw.le le3 hO, v3.mod mw hap.1, ⟨B', bs', rfl, hset⟩⟩, by first | omega | (dsimp only; omega)⟩
    · refine chk (by omega) ⟨⟨a + 1, by omega, by omega, le3, v3, ?_⟩, by first | omega | (dsimp only; omega)⟩
      rw [fillTo_row hs (b := b) (by omega)]; exact u3
  · obtain rfl : a = n := by omega
    rw [fillTo_all hs] at u2
    exact hK m' O' H2 u2 hO le2

theorem centoref2_Rel_Closure.c {m n : Nat} {M : Nat → Nat → Bool} {O : List Nat} {H : Hp} {K : Option Addr → Hp → Prop} (hu : RFO H m O n M)
    (hK : ∀ m' O' H', RFO H' m' O' n (clo M n) → (∀ b ∈ O', H b = none) → Le H H' → K (some ⟨m', 0, none⟩) H') : centoref2_Rel_Closure.C (some ⟨m, 0, none⟩) H K := by
  apply centoref2_Rel_Closure.of
  have hlim := hu.lim
  have hs := hu.sup
  refine centoref2_Rel_Copy.c hu fun m' O' H1 u1 hO le1 => ?_
  refine ⟨fun t H' => ∃ k : Nat, t = k ∧ k ≤ n ∧ Le H H' ∧ RFO H' m' O' n (cloK M n k), fun t _ => (n - t).toNat, ⟨0, rfl, by omega, le1, u1⟩, ?_⟩
  rintro t H2 ⟨k, rfl, hk, le2, u2⟩
  refine u2.len ?_
  refine bcd (fun h => ?_) (fun h => ?_)
  · have hkn : k < n := by omega
    refine ⟨fun t H' => ∃ a : Nat, t = a ∧ a ≤ n ∧ Le H H' ∧ RFO H' m' O' n (cloA (cloK M n k) k a), fun t _ => (n - t).toNat, ⟨0, rfl, by omega, le2, u2⟩, ?_⟩
    rintro t H3 ⟨a, rfl, ha, le3, u3⟩
    refine u3.len ?_
    refine bcd (fun h => ?_) (fun h => ?_)
    · have han : a < n := by omega
      have e0 : cloA (cloK M n k) k (a + 1) = if cloA (cloK M n k) k a a k then fun x y => if x = a then cloA (cloK M n k) k a a y || cloA (cloK M n k) k a k y else cloA (cloK M n k) k a x y else cloA (cloK M n k) k a := rfl
      refine u3.get rfl han rfl hkn ?_
      refine bcn (fun hh => ?_) (fun hh => ?_)
      · rw [if_neg (by rw [hh]; simp)] at e0
        exact chk (by omega) ⟨⟨a + 1, by omega, by omega, le3, by rw [e0]; exact u3⟩, by first | omega | (dsimp only; omega)⟩
      · rw [if_pos hh] at e0
        generalize hN : cloA (cloK M n k) k a = N at *
        have hNs : Sup N n := u3.sup
        refine ⟨fun t H' => ∃ b : Nat, t = b ∧ b ≤ n ∧ Le H H' ∧ RFO H' m' O' n (fun x y => if x = a ∧ y < b then N a y || N k y else N x y), fun t _ => (n - t).toNat, ⟨0, rfl, by omega, le3, u3.congr fun x y => by rw [if_neg (by omega)]⟩, ?_⟩
        rintro t H4 ⟨b, rfl, hb, le4, u4⟩
        refine u4.len ?_
        refine bcd (fun h => ?_) (fun h => ?_)
        · have hbn : b < n := by omega
          have hkb : (if k = a ∧ b < b then N a b || N k b else N k b) = N k b := by rw [if_neg (by omega)]
          refine u4.get rfl hkn rfl hbn ?_
          rw [hkb]
          have hst : ∀ {x y}, (if x = a ∧ y < b + 1 then N a y || N k y else N x y) = (if x = a ∧ y = b then N a b || N k b else if x = a ∧ y < b then N a y || N k y else N x y) := fun {x y} => by
            by_cases e1 : x = a ∧ y = b
            · rw [if_pos e1, if_pos (by omega), e1.2]
            · rw [if_neg e1]
              by_cases e2 : x = a ∧ y < b
              · rw [if_pos e2, if_pos (by omega)]
              · rw [if_neg e2, if_neg (by omega)]
          refine bc_i (fun hkt => ?_) (fun hkf => ?_)
          · obtain ⟨B', bs', rfl, u4⟩ := u4
            refine u4.put rfl han rfl hbn fun H5 u5 m5 => ?_
            refine chk (by omega) ⟨⟨b + 1, by omega, by omega, m5.le le4 hO, ⟨B', bs', rfl, u5.congr fun x y => ?_⟩⟩, by first | omega | (dsimp only; omega)⟩
            rw [hst, hkt, Bool.or_true]
          · refine chk (by omega) ⟨⟨b + 1, by omega, by omega, le4, u4.congr fun x y => ?_⟩, by first | omega | (dsimp only; omega)⟩
            rw [hst, hkf, Bool.or_false]
            by_cases e1 : x = a ∧ y = b
            · rw [if_pos e1, if_neg (by omega), e1.1, e1.2]
            · rw [if_neg e1]
        · obtain rfl : b = n := by omega
          refine chk (by omega) ⟨⟨a + 1, by omega, by omega, le4, u4.congr fun x y => ?_⟩, by first | omega | (dsimp only; omega)⟩
          rw [e0]
          by_cases hx : x = a
          · subst hx
            simp only [if_true]
            by_cases hy : y < b
            · rw [if_pos ⟨by trivial, hy⟩]
            · rw [if_neg (fun g => hy g.2), hNs x y (.inr (by omega)), hNs k y (.inr (by omega))]; rfl
          · simp only [if_neg hx]
            rw [if_neg (fun g => hx g.1)]
    · obtain rfl : a = n := by omega
      exact chk (by omega) ⟨⟨k + 1, by omega, by omega, le3, u3⟩, by first | omega | (dsimp only; omega)⟩
  · obtain rfl : k = n := by omega
    exact hK m' O' H2 u2 hO le2
end Go.Proofs.YteijgmmjgbgffaaDoor
namespace Go.Proofs.YteijgmmjgbgffaaDoor
open Go.V
theorem centoref2_Rel_Same.c {m m' n n' : Nat} {M N : Nat → Nat → Bool} {O O' : List Nat} {H : Hp} {K : Bool → Hp → Prop} (hu : RFO H m O n M) (hv : RFO H m' O' n' N) (hK : K (decide (n = n') && sameM M N n) H) : centoref2_Rel_Same.C (some ⟨m, 0, none⟩) (some ⟨m', 0, none⟩) H K := by
  apply centoref2_Rel_Same.of
  have hlim := hu.lim
  refine hu.len (hv.len ?_)
  refine bcd (fun h => by rwa [decide_eq_false (show ¬ n = n' by omega), Bool.false_and] at hK) (fun h => ?_)
  obtain rfl : n = n' := by omega
  rw [decide_eq_true rfl, Bool.true_and] at hK
  have no : ∀ {a b}, a < n → b < n → ¬ M a b = N a b → K false H := fun ha hb h => by
    have : sameM M N n = false := by
      cases e : sameM M N n with
      | false => rfl
      | true => exact absurd (sameM_iff.1 e _ _ ha hb) h
    rwa [this] at hK
  refine ⟨fun t Hx => ∃ a : Nat, t = a ∧ a ≤ n ∧ H = Hx ∧ ∀ x y, x < a → y < n → M x y = N x y, fun t _ => (n - t).toNat, ⟨0, rfl, by omega, rfl, fun x y h => by omega⟩, ?_⟩
  rintro t _ ⟨a, rfl, ha, rfl, hs⟩
  refine hu.len ?_
  refine bcd (fun h => ?_) (fun h => ?_)
  · have han : a < n := by omega
    refine ⟨fun t Hx => ∃ b : Nat, t = b ∧ b ≤ n ∧ H = Hx ∧ ∀ y, y < b → M a y = N a y, fun t _ => (n - t).toNat, ⟨0, rfl, by omega, rfl, fun y h => by omega⟩, ?_⟩
    rintro t _ ⟨b, rfl, hb, rfl, hs'⟩
    refine hu.len ?_
    refine bcd (fun h => ?_) (fun h => ?_)
    · have hbn : b < n := by omega
      refine hu.get rfl han rfl hbn ?_
      refine hv.get rfl han rfl hbn ?_
      refine bcd (fun h => no han hbn h) (fun h => ?_)
      rw [Decidable.not_not] at h
      exact chk (by omega) ⟨⟨b + 1, by omega, by omega, rfl, fun y hy => by
        by_cases e : y = b
        · subst e; exact h
        · exact hs' y (by omega)⟩, by first | omega | (dsimp only; omega)⟩
    · exact chk (by omega) ⟨⟨a + 1, by omega, by omega, rfl, fun x y hx hy => by
        by_cases e : x = a
        · subst e; exact hs' y (by omega)
        · exact hs x y (by omega) hy⟩, by first | omega | (dsimp only; omega)⟩
  · have : sameM M N n = true := sameM_iff.2 fun x y hx hy => hs x y (by omega) hy
    rwa [this] at hK

theorem centoref2_Rel_Pairs.c {m n : Nat} {M : Nat → Nat → Bool} {O : List Nat} {H : Hp} {K : Option Addr → Nat → Nat → Hp → Prop} (hu : RFO H m O n M)
    (hK : ∀ p l c H', Sn 2 pairC H' p l c (prs M n) → New H p → Le H H' → K p l c H') : centoref2_Rel_Pairs.C (some ⟨m, 0, none⟩) H K := by
  apply centoref2_Rel_Pairs.of
  have hlim := hu.lim
  have hsup := hu.sup
  refine ⟨fun p l c t H' => ∃ a : Nat, t = a ∧ a ≤ n ∧ l ≤ a * 200 ∧ Le H H' ∧ Buf 2 H H' p l c ((prsTo M n a 0).flatMap pairC), fun _ _ _ t _ => (n - t).toNat, ⟨0, rfl, by omega, by omega, Le.refl _, by simpa [prsTo, els] using Buf.none⟩, ?_⟩
  rintro p l c t H1 ⟨a, rfl, ha, hl, le1, hB⟩
  refine (hu.le le1).len ?_
  refine bcd (fun h => ?_) (fun h => ?_)
  · have han : a < n := by omega
    have hbd : a * 200 ≤ 40000 := by have := Nat.mul_le_mul_right 200 (show a ≤ 200 by omega); omega
    refine ⟨fun p l c t H' => ∃ b : Nat, t = b ∧ b ≤ n ∧ l ≤ a * 200 + b ∧ Le H H' ∧ Buf 2 H H' p l c ((prsTo M n a b).flatMap pairC), fun _ _ _ t _ => (n - t).toNat, ⟨0, rfl, by omega, by omega, le1, hB⟩, ?_⟩
    rintro p l c t H2 ⟨b, rfl, hb, hl2, le2, hB2⟩
    refine (hu.le le2).len ?_
    refine bcd (fun h => ?_) (fun h => ?_)
    · have hbn : b < n := by omega
      refine (hu.le le2).get rfl han rfl hbn ?_
      refine bc_i (fun hM => ?_) (fun hM => ?_)
      · refine Buf.app1 hB2 le2 (new := [.int .i64 (a : Int), .int .i64 (b : Int)]) rfl (by decide) rfl (by decide) rfl rfl (by simp [te_api_Pair]; omega) fun p' c' H3 hB3 hA3 _ => ?_
        refine chk (by omega) ⟨⟨b + 1, by omega, by omega, by omega, hA3, ?_⟩, by first | omega | (dsimp only; omega)⟩
        rw [prsTo_on hM, List.flatMap_append]
        exact hB3
      · exact chk (by omega) ⟨⟨b + 1, by omega, by omega, by omega, le2, by rw [prsTo_off hM]; exact hB2⟩, by first | omega | (dsimp only; omega)⟩
    · refine chk (by omega) ⟨⟨a + 1, by omega, by omega, by rw [Nat.add_mul]; omega, le2, ?_⟩, by first | omega | (dsimp only; omega)⟩
      rw [prsTo_row hsup (i := b) (by omega)]; exact hB2
  · obtain rfl : a = n := by omega
    have e : prsTo M a a 0 = prs M a := by simp [prsTo, prs, els]
    rw [e] at hB
    exact hK p l c H1 (hB.sn (f := pairC) (fun _ => rfl) (by decide)) hB.fr le1

theorem addSet {M : Nat → Nat → Bool} {n a b : Nat} (ha : a < n) (hb : b < n) : (fun x y => if x = a ∧ y = b then true else M x y) = addM M n a b := by
  funext x y
  unfold addM
  by_cases e : x = a ∧ y = b
  · rw [if_pos e, decide_eq_true (by omega)]; simp
  · rw [if_neg e, decide_eq_false (by omega), Bool.or_false]

theorem centoref2_Of.c {n : Int} {lp : Option Addr} {ll lc : Nat} {l : List (Int × Int)} {H : Hp} {K : Option Addr → Int → Hp → Prop} (hl : Sn 2 pairC H lp ll lc l) (hll : l.length ≤ 1000000000)
    (h1 : (n < 0 ∨ 200 < n) → K none 11 H) (h2 : ∀ H', 0 ≤ n → n ≤ 200 → okP l n.toNat = false → Le H H' → K none 10 H')
    (h3 : ∀ R O H', 0 ≤ n → n ≤ 200 → okP l n.toNat = true → RFO H' R O n.toNat (ofM l n.toNat) → (∀ b ∈ O, H b = none) → Le H H' → K (some ⟨R, 0, none⟩) 0 H') : centoref2_Of.C n lp ll lc H K := by
  apply centoref2_Of.of
  have hlen := hl.len
  refine bcd (fun h => h1 (.inl h)) (fun g1 => bcd (fun h => h1 (.inr h)) (fun g2 => ?_))
  obtain ⟨n, rfl⟩ : ∃ k : Nat, n = k := ⟨n.toNat, by omega⟩
  rw [Int.toNat_natCast] at h2 h3
  have h2 := fun H' => h2 H' (by omega) (by omega)
  have h3 := fun R O H' => h3 R O H' (by omega) (by omega)
  refine centoref2_New.c fun R O H1 u1 hO le1 => ?_
  rw [show (max 0 (min (n : Int) 200)).toNat = n by omega] at u1
  refine ⟨fun t H' => ∃ i : Nat, t = i ∧ i ≤ ll ∧ Le H H' ∧ RFO H' R O n (ofM (l.take i) n) ∧ okP (l.take i) n = true, fun t _ => (ll - t).toNat, ⟨0, rfl, by omega, le1, u1.congr fun x y => by simp [ofM], by simp [okP]⟩, ?_⟩
  rintro t H2 ⟨i, rfl, hi, le2, u2, ok2⟩
  refine bcd (fun h => ?_) (fun h => ?_)
  · have hil : i < l.length := by omega
    have hts := List.take_succ_eq_append_getElem hil
    have bad : okP (l.take (i + 1)) n = false → K none 10 H2 := fun h => h2 H2 (okP_take h) le2
    have okn := okP_snoc (l := l.take i) (n := n) (p := l[i])
    rw [← hts, ok2, Bool.true_and] at okn
    refine snA (hl.le le2) (by omega) (by omega) fun _ => ?_
    simp only [Int.toNat_natCast]
    refine centoref2_Rel_Is.c u2 ?_
    refine bcn (fun h => bad (by rw [okn]; have := of_decide_eq_false h; exact decide_eq_false fun g => this ⟨g.1, g.2.1⟩)) (fun ha => ?_)
    refine snB (hl.le le2) (by omega) (by omega) fun _ => ?_
    simp only [Int.toNat_natCast]
    refine centoref2_Rel_Is.c u2 ?_
    refine bcn (fun h => bad (by rw [okn]; have := of_decide_eq_false h; exact decide_eq_false fun g => this g.2.2)) (fun hb' => ?_)
    have ha := of_decide_eq_true ha
    have hb' := of_decide_eq_true hb'
    have hadd := ofM_snoc (l := l.take i) (n := n) (p := l[i])
    rw [← hts] at hadd
    obtain ⟨x, hx⟩ : ∃ k : Nat, l[i].1 = k := ⟨l[i].1.toNat, by omega⟩
    obtain ⟨y, hy⟩ : ∃ k : Nat, l[i].2 = k := ⟨l[i].2.toNat, by omega⟩
    have hxn : x < n := by omega
    have hyn : y < n := by omega
    obtain ⟨B, bs, hOe, u2⟩ := u2
    obtain ⟨p, c, g1, _, g3⟩ := u2.hm
    obtain rfl := g3.resolve_left (by omega)
    unfold centoref2_Of.k2
    refine nil ?_
    refine ldL_i (by rw [Nat.zero_add]; exact g1) ?_
    refine snA (hl.le le2) (by omega) (by omega) fun _ => ?_
    simp only [Int.toNat_natCast]
    refine idxN x hx hxn ?_
    refine nil ?_
    refine ldL_i (by rw [Nat.zero_add]; exact u2.ptr x (by rw [u2.lb]; exact hxn)) ?_
    refine snB (hl.le le2) (by omega) (by omega) fun _ => ?_
    simp only [Int.toNat_natCast]
    refine idxN y hy hyn ?_
    refine nil ?_
    refine st0 (u2.row x (by rw [u2.lb]; exact hxn) y hyn) ?_
    have hset := u2.set hxn hyn (v := true)
    rw [addSet hxn hyn, ← hx, ← hy, ← hadd] at hset
    have mw : Mod (R :: B :: bs) H2 (wr H2 (bs[x]'(by rw [u2.lb]; exact hxn)) y (.bool true)) := Mod.refl.wr (.inl (by simp))
    exact chk (by omega) ⟨⟨i + 1, by omega, by omega, mw.le le2 (by rw [← hOe]; exact hO), ⟨B, bs, hOe, hset⟩, by rw [okn]; exact decide_eq_true ⟨by omega, by omega, by omega, by omega⟩⟩, by first | omega | (dsimp only; omega)⟩
  · have e1 : l.take i = l := List.take_of_length_le (by omega)
    rw [e1] at u2 ok2
    exact h3 R O H2 ok2 u2 hO le2
end Go.Proofs.YteijgmmjgbgffaaDoor
namespace Go.Proofs.YteijgmmjgbgffaaDoor
open Go.V
/-! ### Circles -/
def oneM (M : Nat → Nat → Bool) (a b : Nat) : Bool := decide (a = b) || (M a b && M b a)
/-- No smaller one is in a's class. -/
def fstM (M : Nat → Nat → Bool) (a : Nat) : Bool := (List.range a).all fun b => !oneM M a b
def clsM (M : Nat → Nat → Bool) (n a : Nat) : List Nat := els (fun b => decide (a ≤ b) && oneM M a b) n
def hdsM (M : Nat → Nat → Bool) (n : Nat) : List Nat := els (fstM M) n
def crcT (M : Nat → Nat → Bool) (n t : Nat) : List (List Nat) := (els (fstM M) t).map (clsM M n)
def crc (M : Nat → Nat → Bool) (n : Nat) : List (List Nat) := (hdsM M n).map (clsM M n)
theorem oneM_symm {M : Nat → Nat → Bool} {a b : Nat} : oneM M a b = oneM M b a := by
  unfold oneM
  rw [Bool.and_comm, decide_eq_decide.2 (eq_comm (a := a) (b := b))]
theorem oneM_iff {M : Nat → Nat → Bool} {a b : Nat} : oneM M a b = true ↔ a = b ∨ (M a b = true ∧ M b a = true) := by unfold oneM; simp
theorem oneM_trans {M : Nat → Nat → Bool} (hT : Tr M) {a b c : Nat} (h : oneM M a b = true) (h' : oneM M b c = true) : oneM M a c = true := by
  rw [oneM_iff] at *
  rcases h with rfl | h
  · exact h'
  rcases h' with rfl | h'
  · exact .inr h
  · exact .inr ⟨hT _ _ _ h.1 h'.1, hT _ _ _ h'.2 h.2⟩
theorem fstM_iff {M : Nat → Nat → Bool} {a : Nat} : fstM M a = true ↔ ∀ b, b < a → oneM M a b = false := by unfold fstM; simp
/-- Everyone has a first one in its class. -/
theorem first_of {M : Nat → Nat → Bool} (hT : Tr M) (x : Nat) : ∃ a, a ≤ x ∧ fstM M a = true ∧ oneM M a x = true := by
  induction x using Nat.strongRecOn with
  | _ x ih =>
    cases h : fstM M x with
    | true => exact ⟨x, Nat.le_refl _, h, by simp [oneM]⟩
    | false =>
      have : ∃ b, b < x ∧ oneM M x b = true := Classical.byContradiction fun g => by
        rw [fstM_iff.2 fun b hb => by cases e : oneM M x b; rfl; exact absurd ⟨b, hb, e⟩ g] at h; cases h
      obtain ⟨b, hb, h1⟩ := this
      obtain ⟨a, ha, h2, h3⟩ := ih b hb
      exact ⟨a, by omega, h2, oneM_trans hT h3 (by rw [oneM_symm]; exact h1)⟩
theorem first_uniq {M : Nat → Nat → Bool} (hT : Tr M) {a b x : Nat} (ha : fstM M a = true) (hb : fstM M b = true) (h : oneM M a x = true) (h' : oneM M b x = true) : a = b := by
  have h1 := oneM_trans hT h (by rw [oneM_symm]; exact h')
  rcases Nat.lt_trichotomy a b with g | g | g
  · have := fstM_iff.1 hb a g; rw [oneM_symm, h1] at this; cases this
  · exact g
  · have := fstM_iff.1 ha b g; rw [h1] at this; cases this
/-- Who has been seen as far as t, and of t's class below i. -/
def seenM (M : Nat → Nat → Bool) (t x : Nat) : Bool := (List.range t).any fun a => fstM M a && (decide (a < x) && M a x && M x a)
theorem seenM_self {M : Nat → Nat → Bool} (hT : Tr M) (t : Nat) : seenM M t t = !fstM M t := by
  rw [Bool.eq_iff_iff, Bool.not_eq_true']
  unfold seenM
  simp only [List.any_eq_true, List.mem_range, Bool.and_eq_true, decide_eq_true_eq]
  constructor
  · rintro ⟨a, _, _, ⟨ha, h1⟩, h2⟩
    cases h : fstM M t with
    | false => rfl
    | true =>
      have := fstM_iff.1 h a ha
      rw [oneM_iff.2 (.inr ⟨h2, h1⟩)] at this; cases this
  · intro h
    obtain ⟨a, ha, h1, h2⟩ := first_of hT t
    rcases oneM_iff.1 h2 with rfl | h2
    · rw [h] at h1; cases h1
    · have : a ≠ t := fun e => by subst e; rw [h] at h1; cases h1
      exact ⟨a, by omega, h1, ⟨by omega, h2.1⟩, h2.2⟩
theorem seenM_succ {M : Nat → Nat → Bool} {t x : Nat} : seenM M (t + 1) x = (seenM M t x || (fstM M t && (decide (t < x) && M t x && M x t))) := by
  unfold seenM; rw [List.range_succ, List.any_append]; simp
/-- The program's class, as far as i. -/
def behM (M : Nat → Nat → Bool) (a : Nat) (b : Nat) : Bool := decide (a < b) && M a b && M b a
theorem clsM_eq {M : Nat → Nat → Bool} {a : Nat} : ∀ i, a < i → els (fun b => decide (a ≤ b) && oneM M a b) i = a :: els (behM M a) i
  | 0, h => absurd h (Nat.not_lt_zero _)
  | i + 1, h => by
    by_cases e : a = i
    · subst e
      have h1 : els (fun b => decide (a ≤ b) && oneM M a b) a = [] := by
        unfold els; rw [List.filter_eq_nil_iff]; intro b hb; simp at hb ⊢; intro; omega
      have h2 : els (behM M a) (a + 1) = [] := by
        unfold els behM; rw [List.filter_eq_nil_iff]; intro b hb; simp at hb ⊢; intro h; omega
      rw [els_on (by simp [oneM]), h1, h2]; rfl
    · have ih := clsM_eq (M := M) (a := a) i (by omega)
      have e2 : (decide (a ≤ i) && oneM M a i) = behM M a i := by
        have h1 : a ≤ i := by omega
        have h2 : a < i := by omega
        unfold oneM behM; simp [h1, h2, e]
      cases hb : behM M a i with
      | true => rw [els_on (by rw [e2, hb]), els_on hb, ih]; rfl
      | false => rw [els_off (by rw [e2, hb]), els_off hb, ih]
theorem clsM_prog {M : Nat → Nat → Bool} {n a : Nat} (h : a < n) : clsM M n a = a :: els (behM M a) n := clsM_eq n h
theorem clsM_len {M : Nat → Nat → Bool} {n a : Nat} : (clsM M n a).length ≤ n := els_len_le _ _
theorem clsM_mem {M : Nat → Nat → Bool} {n a x : Nat} : x ∈ clsM M n a ↔ x < n ∧ a ≤ x ∧ oneM M a x = true := by unfold clsM; rw [els_mem]; simp
theorem crcT_len {M : Nat → Nat → Bool} {n t : Nat} : (crcT M n t).length ≤ t := by unfold crcT; rw [List.length_map]; exact els_len_le _ _
theorem crcT_on {M : Nat → Nat → Bool} {n t : Nat} (h : fstM M t = true) : crcT M n (t + 1) = crcT M n t ++ [clsM M n t] := by unfold crcT; rw [els_on h]; simp
theorem crcT_off {M : Nat → Nat → Bool} {n t : Nat} (h : fstM M t = false) : crcT M n (t + 1) = crcT M n t := by unfold crcT; rw [els_off h]
theorem hds_mem {M : Nat → Nat → Bool} {n a : Nat} : a ∈ hdsM M n ↔ a < n ∧ fstM M a = true := els_mem
theorem hds_nodup {M : Nat → Nat → Bool} {n : Nat} : (hdsM M n).Nodup := by unfold hdsM els; exact List.nodup_range.filter _

/-- One row less. -/
theorem slices_Delete_int_int.c {A H : Hp} {p : Option Addr} {l c : Nat} {hs : List Hd} {i : Nat} {j : Int} {K : Option Addr → Nat → Nat → Hp → Prop} (hB : Buf 1 A H p l c (hs.map hv)) (hi : i < hs.length) (hj : j = (i : Int) + 1)
    (hK : ∀ H', Buf 1 A H' p (l - 1) c ((hs.eraseIdx i).map hv) → Mod (blkL p) H H' → K p (l - 1) c H') : slices_Delete_int_int.C p l c (i : Int) j H K := by
  apply slices_Delete_int_int.of
  have hl : l = hs.length := by have := hB.1; simpa using this
  have hsl := hB.sl
  obtain ⟨b, rfl⟩ := hB.some_of (by omega)
  rcases hB.2 with ⟨h0, _, _⟩ | ⟨b', rest, h1, h2, h3, h4, h5, h6⟩
  · cases h0
  simp only [Option.some.injEq, Addr.mk.injEq, and_true] at h1
  subst h1
  subst hj
  refine ⟨l, rfl, h5, ?_⟩
  refine ⟨i, i + 1, rfl, by omega, by omega, by omega, ?_⟩
  refine bcd (fun h => absurd h (by omega)) fun _ => ?_
  refine ⟨i, rfl, by omega, ?_⟩
  refine ⟨i + 1, by omega, by omega, ?_⟩
  have em : movA (some ⟨b, 0, none⟩) 0 1 c = some ⟨b, 0, none⟩ := by unfold movA; simp [mulS]
  rw [em]
  have hsrc := hsl.slice (j := i + 1) (k := l) (by omega) (by omega)
  have hlast : ∃ z, hs.drop i = (hs.drop i).take (l - (i + 1)) ++ [z] := by
    have hd : (hs.drop i).length = (l - (i + 1)) + 1 := by simp; omega
    refine ⟨(hs.drop i)[l - (i + 1)]'(by omega), ?_⟩
    rw [List.take_append_getElem, List.take_of_length_le (by omega)]
  obtain ⟨z, hz⟩ := hlast
  have hblk : H b = some ((hs.take i).map hv ++ (((hs.drop i).take (l - (i + 1))).map hv ++ (hv z :: rest))) := by
    rw [h3]
    conv => lhs; rw [← List.take_append_drop i hs, hz]
    simp
  have hall : ((hs.take i).map hv ++ (((hs.drop i).take (l - (i + 1))).map hv ++ (hv z :: rest))).all isCell = true := by
    have e : hs.map hv ++ rest = (hs.take i).map hv ++ (((hs.drop i).take (l - (i + 1))).map hv ++ (hv z :: rest)) := by rw [h3] at hblk; exact Option.some.inj hblk
    rw [← e]; exact h6
  have hlt : (hs.take i).length = i := by simp; omega
  have hnew : (((hs.take l).drop (i + 1)).map hv).length = l - (i + 1) := by simp; omega
  have hcells : ∀ ys : List Hd, (ys.map hv).all isCell = true := fun ys => by rw [List.all_eq_true]; intro v hvv; obtain ⟨y, _, rfl⟩ := List.mem_map.1 hvv; rfl
  unfold APP
  refine sl_srcG hsrc (by simp only [movA]; split <;> exact PtOk.some) _ ?_
  have hT : te_sl_int.size = 1 := rfl
  rw [hT]
  refine ⟨fun _ => ⟨fun x hx => ?_, fun v hvv => List.all_eq_true.1 (hcells _) v hvv, ?_⟩, fun hgt => absurd hgt (by omega)⟩
  · unfold rd; rw [hblk]
    have hx' : 0 + (i - 0) * 1 + x < ((hs.take i).map hv ++ (((hs.drop i).take (l - (i + 1))).map hv ++ (hv z :: rest))).length := by
      rw [hnew] at hx
      simp; omega
    simp only [Option.bind_some, List.getElem?_eq_getElem hx']
    rw [all_get hall (List.getElem?_eq_getElem hx')]; rfl
  · have hw := wrN_at b (((hs.take l).drop (i + 1)).map hv) ((hs.take i).map hv) (((hs.drop i).take (l - (i + 1))).map hv) (hv z :: rest) H (by rw [hnew]; simp; omega) hblk
    have e0 : 0 + (i - 0) * 1 = ((hs.take i).map hv).length := by simp; omega
    rw [e0]
    generalize hH1 : wrN H b ((hs.take i).map hv).length (((hs.take l).drop (i + 1)).map hv) = H1 at *
    have m1 : Mod (blkL (some ⟨b, 0, none⟩)) H H1 := fun x hx d hd => by
      rw [← hH1, rd_wrN_ne _ _ _ _ _ (by simpa [blkL] using hx)]; exact hd
    have el : i - 0 + (l - (i + 1)) = l - 1 := by omega
    rw [el]
    refine ⟨l - 1, l, rfl, rfl, by omega, by omega, ?_⟩
    have hc : ¬ (c = l - 1) := by omega
    have em2 : movA (some ⟨b, 0, none⟩) (l - 1) 1 c = some ⟨b, l - 1, none⟩ := by simp [movA, hc, mulS]
    have e1 : l - (l - 1) = 1 := by omega
    show CLR H1 te_sl_int (movA (some ⟨b, 0, none⟩) (l - 1) 1 c) (l - (l - 1)) fun Hx22 => K (some ⟨b, 0, none⟩) (l - 1) c Hx22
    rw [em2, e1]
    have hpre : ((hs.take i).map hv ++ ((hs.take l).drop (i + 1)).map hv) = (hs.eraseIdx i).map hv := by
      have ht : hs.take l = hs := List.take_of_length_le (by omega)
      rw [← List.map_append, List.eraseIdx_eq_take_drop_succ, ht]
    have hw2 : H1 b = some ((hs.eraseIdx i).map hv ++ ([hv z] ++ rest)) := by rw [hw, ← hpre]; simp
    have hpl : ((hs.eraseIdx i).map hv).length = l - 1 := by simp [List.length_eraseIdx, hi]; omega
    have hr : rep 1 te_sl_int.zc = [.slice none 0 0] := rfl
    refine ⟨fun x hx => ?_, fun v hvv => ?_, ?_⟩
    · rw [hr] at hx
      simp at hx; subst hx
      unfold rd; rw [hw2]
      simp only [Option.bind_some, Nat.add_zero]
      rw [List.getElem?_append_right (by omega), hpl]
      simp [hv, nmO]
    · rw [hr] at hvv; simp at hvv; subst hvv; rfl
    · rw [hr]
      have hw3 := wrN_at b [.slice none 0 0] ((hs.eraseIdx i).map hv) [hv z] rest H1 rfl hw2
      rw [hpl] at hw3
      have m2 : Mod (blkL (some ⟨b, 0, none⟩)) H (wrN H1 b (l - 1) [.slice none 0 0]) := fun x hx d hd => by
        rw [rd_wrN_ne _ _ _ _ _ (by simpa [blkL] using hx)]; exact m1 x hx d hd
      refine hK _ ⟨by simpa using hpl.symm, .inr ⟨b, .slice none 0 0 :: rest, rfl, h2, by rw [hw3]; simp, ?_, by omega, ?_⟩⟩ m2
      · simp at h4 ⊢; simp at hpl; omega
      · rw [List.all_append, hcells, Bool.true_and, List.all_cons]
        rw [List.all_append, Bool.and_eq_true] at h6
        exact h6.2
end Go.Proofs.YteijgmmjgbgffaaDoor
namespace Go.Proofs.YteijgmmjgbgffaaDoor
open Go.V
theorem rel_Rel_Behind.c {R B n : Nat} {rs qs : List Nat} {M : Nat → Nat → Bool} {H : Hp} {K : Value → Hp → Prop} (hu : RL H R B rs qs n M) {a : Nat} (ha : a < n)
    (hK : ∀ cap H', H cap = none → rd H' cap 0 = some (.pointer (some ⟨rs[a]'(by rw [hu.lr]; exact ha), 0, none⟩)) → Le H H' → K (.func (.func bits_Row_Each_1.num) ⟨[]⟩ ⟨[.pointer (some ⟨cap, 0, none⟩)]⟩) H') :
    rel_Rel_Behind.C (some ⟨R, 0, none⟩) (a : Int) H K := by
  apply rel_Rel_Behind.of
  refine rel_Rel_there.c ⟨B, rs, qs, rfl, hu⟩ ?_
  have e : decide (0 ≤ (a : Int) ∧ (a : Int) < (n : Int)) = true := decide_eq_true ⟨by omega, by omega⟩
  rw [e]
  refine bcF ?_
  refine hu.at rfl ha ?_
  exact bits_Row_Each.c hK

theorem order_circles.c {c n : Nat} {M : Nat → Nat → Bool} {O : List Nat} {H : Hp} {K : Option Addr → Nat → Nat → Hp → Prop} (hu : RLO H c O n M) (hT : Tr M)
    (hK : ∀ p l cc H', Rw H H' p l cc (crc M n) → Le H H' → K p l cc H') : order_circles.C (some ⟨c, 0, none⟩) H K := by
  apply order_circles.of
  have hlim := hu.lim
  intro b2 hb2
  have le1 : Le H (upd H b2 [.pointer (some ⟨c, 0, none⟩)]) := .upd hb2
  have r2 : rd (upd H b2 [.pointer (some ⟨c, 0, none⟩)]) b2 0 = some (.pointer (some ⟨c, 0, none⟩)) := by rw [rd_upd_self]; rfl
  refine ldP_i r2 ?_
  generalize upd H b2 [.pointer (some ⟨c, 0, none⟩)] = H1 at *
  refine rel_Rel_Len.c (hu.le le1) ?_
  refine mk rfl (by omega) (by omega) ?_
  intro b10 hb10
  have le2 : Le H1 (upd H1 b10 (rep n [.bool false])) := .upd hb10
  have rs2 : ∀ x, x < n → rd (upd H1 b10 (rep n [.bool false])) b10 x = some (.bool false) := fun x hx => rd_rep hx
  have t10 : upd H1 b10 (rep n [.bool false]) b10 ≠ none := by unfold upd; rw [if_pos rfl]; intro e; cases e
  generalize upd H1 b10 (rep n [.bool false]) = H2 at *
  intro b12 hb12
  have le3 : Le H2 (upd H2 b12 [.slice none 0 0]) := .upd hb12
  have r12 : rd (upd H2 b12 [.slice none 0 0]) b12 0 = some (.slice none 0 0) := by rw [rd_upd_self]; rfl
  refine st r12 ?_
  have le3' : Le H2 (wr (upd H2 b12 [.slice none 0 0]) b12 0 (.slice (some ⟨b10, 0, none⟩) n n)) := le3.wr hb12
  have r12' := rd_wr_self (v := .slice (some ⟨b10, 0, none⟩) n n) r12
  generalize wr (upd H2 b12 [.slice none 0 0]) b12 0 (.slice (some ⟨b10, 0, none⟩) n n) = H3 at *
  refine ldL_i r12' ?_
  have r2' := (le2.trans le3').rd r2
  have rs3 : ∀ x, x < n → rd H3 b10 x = some (.bool false) := fun x hx => le3'.rd (rs2 x hx)
  have t10' : H3 b10 ≠ none := by rw [eq_of_le le3' t10]; exact t10
  have leH3 : Le H H3 := (le1.trans le2).trans le3'
  have n2 : b2 ≠ b10 := ne_of_none (ne_none_of_rd r2) hb10
  have n12 : b12 ≠ b10 := fun e => t10 (e ▸ hb12)
  have fr10 : H b10 = none := none_of_le le1 hb10
  refine ⟨fun outp outl outc t Hx => ∃ t' : Nat, t = t' ∧ t' ≤ n ∧ Mod [b10] H3 Hx ∧ Hx b10 ≠ none ∧ (∀ x, x < n → rd Hx b10 x = some (.bool (seenM M t' x))) ∧ Rw H3 Hx outp outl outc (crcT M n t'), fun _ _ _ t _ => (n - t).toNat,
    ⟨0, rfl, by omega, .refl, t10', fun x hx => by rw [rs3 x hx]; simp [seenM], Rw.none⟩, ?_⟩
  rintro outp outl outc t Hx ⟨t, rfl, ht, mx, tx, hs, hR⟩
  refine bcd (fun h => ?_) (fun h => ?_)
  · have htn : t < n := by omega
    have rx2 : rd Hx b2 0 = some (.pointer (some ⟨c, 0, none⟩)) := mx.rd (by simpa using n2) r2'
    have rx12 : rd Hx b12 0 = some (.slice (some ⟨b10, 0, none⟩) n n) := mx.rd (by simpa using n12) r12'
    have leHx : Le H Hx := mx.le leH3 (none1 fr10)
    intro b25 hb25
    have le5 : Le Hx (upd Hx b25 [.int .i64 0]) := .upd hb25
    have r25 : rd (upd Hx b25 [.int .i64 0]) b25 0 = some (.int .i64 0) := by rw [rd_upd_self]; rfl
    refine st r25 ?_
    have le5' : Le Hx (wr (upd Hx b25 [.int .i64 0]) b25 0 (.int .i64 t)) := le5.wr hb25
    have r25' := rd_wr_self (v := .int .i64 (t : Int)) r25
    generalize wr (upd Hx b25 [.int .i64 0]) b25 0 (.int .i64 t) = H5 at *
    refine ldL_i (le5'.rd rx12) ?_
    refine ldI_i r25' ?_
    refine idxN t rfl htn ?_
    refine nil ?_
    refine ldB_i (by rw [Nat.zero_add]; exact le5'.rd (hs t htn)) ?_
    rw [seenM_self hT]
    cases hf : fstM M t with
    | false =>
      refine bcT ?_
      refine chk (by omega) ⟨⟨t + 1, by omega, by omega, mx.andLe le5', by rw [eq_of_le le5' tx]; exact tx, fun x hx => ?_, ?_⟩, by first | omega | (dsimp only; omega)⟩
      · rw [le5'.rd (hs x hx), seenM_succ, hf]; simp
      · rw [crcT_off hf]; exact hR.le le5'
    | true =>
      refine bcF ?_
      refine ldI_i r25' ?_
      intro b42 hb42
      have le6 : Le H5 (upd H5 b42 [.int .i64 t]) := .upd hb42
      have c42 : upd H5 b42 [.int .i64 t] b42 = some [.int .i64 t] := by unfold upd; rw [if_pos rfl]
      generalize upd H5 b42 [.int .i64 t] = H6 at *
      intro b44 hb44
      have le7 : Le H6 (upd H6 b44 [.slice none 0 0]) := .upd hb44
      have r44 : rd (upd H6 b44 [.slice none 0 0]) b44 0 = some (.slice none 0 0) := by rw [rd_upd_self]; rfl
      refine st r44 ?_
      have le7' : Le H6 (wr (upd H6 b44 [.slice none 0 0]) b44 0 (.slice (some ⟨b42, 0, none⟩) 1 1)) := le7.wr hb44
      have r44' := rd_wr_self (v := .slice (some ⟨b42, 0, none⟩) 1 1) r44
      generalize wr (upd H6 b44 [.slice none 0 0]) b44 0 (.slice (some ⟨b42, 0, none⟩) 1 1) = H7 at *
      have le57 : Le H5 H7 := le6.trans le7'
      have leX7 : Le Hx H7 := le5'.trans le57
      refine ldP_i (leX7.rd rx2) ?_
      refine ldI_i (le57.rd r25') ?_
      have leH7 : Le H H7 := leHx.trans leX7
      have ⟨B, rs, qs, hO, v0⟩ := hu
      have v7 : RL H7 c B rs qs n M := v0.mod (O := []) leH7.mod (by simp) (by simp)
      refine rel_Rel_Behind.c v7 htn fun cap H8 hcap hrc le8 => ?_
      show bits_Row_Each_1.I cap H8 _ _
      have leX8 : Le Hx H8 := leX7.trans le8
      have leH8 : Le H H8 := leH7.trans le8
      have c42' : H8 b42 = some [.int .i64 t] := le8 _ _ (le7' _ _ c42)
      have r44'' := le8.rd r44'
      have f44 : Hx b44 = none := none_of_le (le5'.trans le6) hb44
      have f42 : Hx b42 = none := none_of_le le5' hb42
      have n1044 : b10 ≠ b44 := ne_of_none tx f44
      have n1042 : b10 ≠ b42 := ne_of_none tx f42
      have n4442 : b44 ≠ b42 := fun e => by subst e; rw [c42] at hb44; cases hb44
      have old : ∀ x, H x ≠ none → x ∉ [b10, b44, b42] := fun x hx hm => by
        simp only [List.mem_cons, List.not_mem_nil, or_false] at hm
        rcases hm with rfl | rfl | rfl
        · exact hx fr10
        · exact hx (none_of_le leHx f44)
        · exact hx (none_of_le leHx f42)
      have v8 := v7.mod (O := []) le8.mod (by simp) (by simp)
      have br := v8.br htn
      have n25 : b25 ∉ [b10, b44, b42] := fun hm => by
        simp only [List.mem_cons, List.not_mem_nil, or_false] at hm
        rcases hm with rfl | rfl | rfl
        · exact tx hb25
        · have := none_of_le le6 hb44; exact ne_none_of_rd r25' this
        · exact ne_none_of_rd r25' hb42
      have n12' : b12 ∉ [b10, b44, b42] := fun hm => by
        simp only [List.mem_cons, List.not_mem_nil, or_false] at hm
        have := ne_none_of_rd rx12
        rcases hm with rfl | rfl | rfl
        · exact n12 rfl
        · exact this f44
        · exact this f42
      have n2' : b2 ∉ [b10, b44, b42] := fun hm => by
        simp only [List.mem_cons, List.not_mem_nil, or_false] at hm
        have := ne_none_of_rd rx2
        rcases hm with rfl | rfl | rfl
        · exact n2 rfl
        · exact this f44
        · exact this f42
      have bufNo : ∀ {p : Option Addr} {l cc : Nat} {cells : List Value} {Hy : Hp}, Buf 1 (but H8 (some ⟨b42, 0, none⟩)) Hy p l cc cells → ∀ x ∈ blkL p, x = b42 ∨ H8 x = none := fun hB x hx => by
        rcases but_none (hB.fr x 0 (blkL_mem hB.zero hx)) with ⟨a, e, h1⟩ | h1
        · simp only [Option.some.injEq] at e; subst e; exact .inl h1.symm
        · exact .inr h1
      refine each_rule (fun i Hy => Mod [b10, b44, b42] H8 Hy ∧ Hy b10 ≠ none ∧ ∃ p l cc, rd Hy b44 0 = some (.slice p l cc) ∧ Buf 1 (but H8 (some ⟨b42, 0, none⟩)) Hy p l cc ((t :: els (behM M t) i).map iv) ∧
        ∀ x, x < n → rd Hy b10 x = some (.bool (seenM M t x || (decide (x < i) && behM M t x)))) br hrc ⟨.refl, by rw [eq_of_le leX8 tx]; exact tx, _, _, _, r44'', ⟨rfl, .inr ⟨b42, [], rfl, ?_, by simpa [els, iv] using c42', rfl, Nat.le_refl _, rfl⟩⟩, fun x hx => by rw [leX8.rd (hs x hx)]; simp⟩ ?_ ?_ ?_ ?_
      · simp [but]
      · rintro i Hy ⟨m1, _⟩
        refine ⟨v8.tz.mod m1 (old _ (hu.tz.there)), fun j _ _ => ?_⟩
        have hq : qs[t]'(by rw [v8.lq]; exact htn) ∈ O := by rw [hO]; exact v0.mem htn
        rw [rd_eq (eq_of_mod m1 (old _ (hu.there _ hq)) br.hq)]
      · rintro i Hy hs' ⟨m1, ty, p, l, cc, g1, g2, g3⟩
        have hb : behM M t i = false := by unfold behM; rw [hs']; simp
        refine ⟨m1, ty, p, l, cc, g1, by rw [els_off hb]; exact g2, fun x hx => ?_⟩
        rw [g3 x hx]
        by_cases e : x = i
        · subst e; rw [hb]; simp
        · rw [decide_eq_decide.2 (show x < i ↔ x < i + 1 by omega)]
      · rintro i Hy Kb hi hs' ⟨m1, ty, p, l, cc, g1, g2, g3⟩ hon _
        have y25 := m1.rd n25 ((le57.trans le8).rd r25')
        have skip : behM M t i = false → Kb Al.on Hy := fun hb => hon _ ⟨m1, ty, p, l, cc, g1, by rw [els_off hb]; exact g2, fun x hx => by
          rw [g3 x hx]
          by_cases e : x = i
          · subst e; rw [hb]; simp
          · rw [decide_eq_decide.2 (show x < i ↔ x < i + 1 by omega)]⟩
        refine ldI_i y25 (bcd (fun hlt => ?_) (fun hge => bcF (skip ?_)))
        · refine ldP_i (m1.rd n2' (leX8.rd rx2)) (ldI_i y25 ?_)
          refine rel_Rel_Has.c ((hu.le leH8).mod m1 (fun x hx hxO => old _ (hu.there _ hxO) hx) (old _ hu.tz.there)) ?_
          rw [hasM_nat]
          cases hb : M i t with
          | false => exact bcF (skip (by unfold behM; rw [hb]; simp))
          | true =>
            have hbeh : behM M t i = true := by
              have : t < i := by omega
              unfold behM; rw [hb, hs']; simp [this]
            have hll : l ≤ n + 1 := by
              have := g2.1
              have h2 := els_len_le (behM M t) i
              simp at this; omega
            refine bcT (ldL_i g1 ?_)
            have hsub : Was (but H8 (some ⟨b42, 0, none⟩)) Hy := fun x e => by
              by_cases hx : x = b42
              · subst hx; simp [but]
              · have h8 : H8 x = none := by
                  cases h8 : H8 x with
                  | none => rfl
                  | some d =>
                    have hx' : x ∉ [b10, b44, b42] := fun hm => by
                      simp only [List.mem_cons, List.not_mem_nil, or_false] at hm
                      rcases hm with rfl | rfl | rfl
                      · exact ty e
                      · exact ne_none_of_rd g1 e
                      · exact hx rfl
                    rw [m1 x hx' d h8] at e; cases e
                exact none_of_le but_le h8
            have hno : ∀ {x : Nat}, H8 x ≠ none → x ≠ b42 → x ∉ blkL p := fun h1 h2 hx => by
              rcases bufNo g2 _ hx with e | e
              · exact h2 e
              · exact h1 e
            have t44 := ne_none_of_rd r44''
            have t10'' : H8 b10 ≠ none := by rw [eq_of_le leX8 tx]; exact tx
            have hb12 := leX8.rd rx12
            refine g2.pushS rfl (by decide) rfl (by decide) rfl rfl (by simp [te_int]; omega) (fun p' c' H9 hB9 hp' m9 => ?_) hsub
            have r9 := m9.rd (hno t44 n4442) g1
            refine st r9 ?_
            have n12b : b12 ≠ b44 := fun e => n12' (by simp [e])
            refine ldL_i (p := some ⟨b10, 0, none⟩) (l := n) (c := n) (by rw [rd_wr_ne n12b]; exact m9.rd (hno (ne_none_of_rd hb12) fun e => n12' (by simp [e])) (m1.rd n12' hb12)) ?_
            refine idxN i rfl hi (nil ?_)
            have s9 : ∀ x, x < n → rd (wr H9 b44 0 (.slice p' (l + 1) c')) b10 x = some (.bool (seenM M t x || (decide (x < i) && behM M t x))) := fun x hx => by
              rw [rd_wr_ne n1044]; exact m9.rd (hno t10'' n1042) (g3 x hx)
            refine st0 (s9 i hi) (hon _ ⟨((m1.via m9 fun x hx => ?_).wr (.inl (by simp))).wr (.inl (by simp)), ne_none_of_rd (rd_wr_self (s9 i hi)), p', l + 1, c', ?_, ?_, fun x hx => ?_⟩)
            · rcases bufNo g2 x hx with e | e
              · exact .inl (by simp [e])
              · exact .inr e
            · rw [rd_wr_ne n1044.symm]; exact rd_wr_self r9
            · rw [els_on hbeh]
              have hmm : Mod [b10, b44] H9 (wr (wr H9 b44 0 (.slice p' (l + 1) c')) b10 i (.bool true)) := (Mod.refl.wr (.inl (by simp))).wr (.inl (by simp))
              have := hB9.mod hmm fun x o e hx => by
                have hx' : x = b10 ∨ x = b44 := by simpa using hx
                have hx8 : H8 x ≠ none ∧ x ≠ b42 ∧ Hy x ≠ none := by
                  rcases hx' with rfl | rfl
                  · exact ⟨t10'', n1042, ty⟩
                  · exact ⟨t44, n4442, ne_none_of_rd g1⟩
                rcases hp' with rfl | hp'
                · exact hno hx8.1 hx8.2.1 (blkL_some e)
                · exact hx8.2.2 (hp' x o e)
              simpa [iv] using this
            · by_cases e : x = i
              · subst e; rw [rd_wr_self (s9 x hi)]; simp [hbeh]
              · rw [rd_wr_off e, s9 x hx, decide_eq_decide.2 (show x < i ↔ x < i + 1 by omega)]
        · unfold behM
          have : ¬ t < i := by omega
          simp [this]
      · rintro i Hy hi ⟨m1, ty, p, l, cc, g1, g2, g3⟩
        have e1 : els (behM M t) i = els (behM M t) n := els_end (fun j hj => by unfold behM; rw [hu.sup t j (.inr hj)]; simp) hi
        rw [e1, ← clsM_prog htn] at g2
        refine alOn (ldL_i g1 ?_)
        have mX : Mod [b10] Hx Hy := (m1.after leX8).drop fun x hx => by
          simp only [List.mem_cons, List.not_mem_nil, or_false] at hx
          rcases hx with rfl | rfl | rfl
          · exact .inl (by simp)
          · exact .inr f44
          · exact .inr f42
        have m3 : Mod [b10] H3 Hy := mx.trans mX
        have sub3 : Was H3 Hy := m3.was fun x hx => by simp at hx; subst hx; exact ty
        have sub3x : Was H3 Hx := mx.was fun x hx => by simp at hx; subst hx; exact tx
        have hRy := hR.mod mX fun x hx => by simp at hx; subst hx; exact t10'
        have hl := hR.len
        have hcl := crcT_len (M := M) (n := n) (t := t)
        have hnp : ∀ x ∈ blkL p, Hx x = none := fun x hx => by
          rcases bufNo g2 x hx with rfl | e
          · exact f42
          · exact none_of_le leX8 e
        refine hRy.push sub3 g2.sl (fun x o e => sub3x x (hnp x (blkL_some e))) (fun x hx => g2.there (blkL_mem g2.zero hx)) g2.pt (fun x o o' e e' => ?_) rfl rfl (by decide) (by simp [te_sl_int]; omega) rfl (fun p' c' H' hR' hp' m' => ?_)
        · obtain ⟨hs', _, hB, _⟩ := hR
          exact hB.there e (hnp x (blkL_some e'))
        · have fro : ∀ x ∈ blkL outp, H3 x = none := fun x hx => by
            obtain ⟨hs', _, hB, _⟩ := hR
            exact hB.fr x 0 (blkL_mem hB.zero hx)
          have n10 : b10 ∉ blkL outp := fun hx => t10' (fro _ hx)
          refine chk (by omega) ⟨⟨t + 1, by omega, by omega, m3.via m' fun x hx => .inr (fro x hx), by rw [eq_of_mod m' n10 ty]; exact ty, fun x hx => ?_, ?_⟩, by first | omega | (dsimp only; omega)⟩
          · rw [m'.rd n10 (g3 x hx), seenM_succ, hf, Bool.true_and]
            have : x < i := by omega
            simp [this, behM]
          · rw [crcT_on hf]; exact hR'
  · obtain rfl : t = n := by omega
    have leHx : Le H Hx := mx.le leH3 (none1 fr10)
    exact hK _ _ _ _ (hR.base leH3) leHx

/-- A relation, or none. -/
def RN (H : Hp) (r : Option Addr) (n : Nat) (M : Nat → Nat → Bool) : Prop := (r = none ∧ n = 0 ∧ M = (fun _ _ => false) ∧ Tz H) ∨ ∃ R O, r = some ⟨R, 0, none⟩ ∧ RLO H R O n M
theorem RLO.rn {H : Hp} {R n : Nat} {M : Nat → Nat → Bool} {O : List Nat} (h : RLO H R O n M) : RN H (some ⟨R, 0, none⟩) n M := .inr ⟨R, O, rfl, h⟩
theorem RN.le {H H' : Hp} {r : Option Addr} {n : Nat} {M : Nat → Nat → Bool} (h : RN H r n M) (hl : Le H H') : RN H' r n M := by
  rcases h with ⟨h1, h2, h3, h4⟩ | ⟨R, O, h1, h2⟩
  · exact .inl ⟨h1, h2, h3, h4.le hl⟩
  · exact .inr ⟨R, O, h1, h2.le hl⟩
theorem RN.sup {H : Hp} {r : Option Addr} {n : Nat} {M : Nat → Nat → Bool} (h : RN H r n M) : Sup M n := by
  rcases h with ⟨_, _, h3, _⟩ | ⟨R, O, _, h2⟩
  · subst h3; exact fun _ _ _ => rfl
  · exact h2.sup
theorem order_closed.c {r : Option Addr} {n : Nat} {M : Nat → Nat → Bool} {H : Hp} {K : Option Addr → Hp → Prop} (hu : RN H r n M)
    (hK : ∀ R' O' H', RLO H' R' O' n (clo M n) → Tr (clo M n) → (∀ b ∈ O', H b = none) → Le H H' → K (some ⟨R', 0, none⟩) H') : order_closed.C r H K := by
  apply order_closed.of
  have ht := clo_tr hu.sup
  rcases hu with ⟨rfl, rfl, rfl, hT⟩ | ⟨R, O, rfl, hu⟩
  · refine bcd (fun _ => ?_) fun h => absurd rfl h
    refine rel_New.c hT fun R O H' u hO le => ?_
    rw [show (min (max (0 : Int) 0) 200).toNat = 0 by decide] at u
    exact hK R O H' u ht hO le
  · refine bcd (fun h => by cases h) fun _ => ?_
    exact rel_Rel_Closure.c hu fun R' O' H' u hO le => hK R' O' H' u ht hO le
end Go.Proofs.YteijgmmjgbgffaaDoor
namespace Go.Proofs.YteijgmmjgbgffaaDoor
open Go.V
theorem centoref2_Rel_one.c {m n : Nat} {M : Nat → Nat → Bool} {O : List Nat} {i j : Int} {a b : Nat} {H : Hp} {K : Bool → Hp → Prop} (hu : RFO H m O n M) (hi : i = (a : Int)) (ha : a < n) (hj : j = (b : Int)) (hb : b < n) (hK : K (oneM M a b) H) :
    centoref2_Rel_one.C (some ⟨m, 0, none⟩) i j H K := by
  apply centoref2_Rel_one.of
  refine bcd (fun h => ?_) fun h => ?_
  · have e : oneM M a b = true := oneM_iff.2 (.inl (by omega))
    rwa [e] at hK
  · have hne : ¬ a = b := by omega
    refine hu.get hi ha hj hb (bc_i (fun h1 => hu.get hj hb hi ha ?_) (fun h1 => ?_))
    · have e : oneM M a b = M b a := by unfold oneM; simp [hne, h1]
      rwa [e] at hK
    · have e : oneM M a b = false := by unfold oneM; simp [hne, h1]
      rwa [e] at hK

theorem centoref2_Rel_Circles.c {m n : Nat} {M : Nat → Nat → Bool} {O : List Nat} {H : Hp} {K : Option Addr → Nat → Nat → Hp → Prop} (hu : RFO H m O n M)
    (hK : ∀ p l cc H', Rw H H' p l cc (crc M n) → Le H H' → K p l cc H') : centoref2_Rel_Circles.C (some ⟨m, 0, none⟩) H K := by
  apply centoref2_Rel_Circles.of
  have hlim := hu.lim
  refine ⟨fun lp ll lc a Hx => ∃ a' : Nat, a = a' ∧ a' ≤ n ∧ Le H Hx ∧ Rw H Hx lp ll lc (crcT M n a'), fun _ _ _ a _ => (n - a).toNat, ⟨0, rfl, by omega, .refl _, Rw.none⟩, ?_⟩
  rintro lp ll lc a Hx ⟨a, rfl, ha, le1, hR⟩
  have hux := hu.le le1
  refine hux.len ?_
  refine bcd (fun h => ?_) (fun h => ?_)
  · have han : a < n := by omega
    refine ⟨fun f b Hy => ∃ b' : Nat, b = b' ∧ b' ≤ a ∧ Hx = Hy ∧ f = (List.range b').all (fun b => !oneM M a b), fun _ b _ => (a - b).toNat, ⟨0, rfl, by omega, rfl, rfl⟩, ?_⟩
    rintro f b _ ⟨b, rfl, hb, rfl, hf⟩
    have all_succ : (List.range (b + 1)).all (fun b => !oneM M a b) = (f && !oneM M a b) := by rw [List.range_succ, List.all_append, hf]; simp
    refine bcd (fun h => ?_) (fun h => ?_)
    · have hba : b < a := by omega
      refine bc_i (fun h1 => ?_) (fun h1 => ?_)
      · refine centoref2_Rel_one.c hux rfl han rfl (by omega) ?_
        exact chk (by omega) ⟨⟨b + 1, by omega, by omega, rfl, by rw [all_succ, h1]; simp⟩, by first | omega | (dsimp only; omega)⟩
      · exact chk (by omega) ⟨⟨b + 1, by omega, by omega, rfl, by rw [all_succ, h1]; simp⟩, by first | omega | (dsimp only; omega)⟩
    · obtain rfl : b = a := by omega
      have e : f = fstM M b := hf
      rw [e]
      refine bcn (fun h1 => ?_) (fun h1 => ?_)
      · exact chk (by omega) ⟨⟨b + 1, by omega, by omega, le1, by rw [crcT_off h1]; exact hR⟩, by first | omega | (dsimp only; omega)⟩
      · refine ⟨fun cp cl cc i Hy => ∃ i' : Nat, i = i' ∧ b ≤ i' ∧ i' ≤ n ∧ Le Hx Hy ∧ Buf 1 Hx Hy cp cl cc ((els (fun x => decide (b ≤ x) && oneM M b x) i').map iv), fun _ _ _ i _ => (n - i).toNat, ⟨b, rfl, by omega, by omega, .refl _, ?_⟩, ?_⟩
        · have : els (fun x => decide (b ≤ x) && oneM M b x) b = [] := by
            unfold els; rw [List.filter_eq_nil_iff]; intro x hx; simp at hx ⊢; intro; omega
          rw [this]; exact Buf.none
        · rintro cp cl cc i Hy ⟨i, rfl, hbi, hin, le2, hB⟩
          have huy := hux.le le2
          have hcl := hB.1
          have hel := els_len_le (fun x => decide (b ≤ x) && oneM M b x) i
          simp only [List.length_map, Nat.mul_one] at hcl
          refine huy.len ?_
          refine bcd (fun h => ?_) (fun h => ?_)
          · have hi : i < n := by omega
            refine centoref2_Rel_one.c huy rfl han rfl hi ?_
            refine bc_i (fun h2 => ?_) (fun h2 => ?_)
            · refine hB.pushM rfl (by decide) rfl (by decide) rfl rfl (by simp [te_int]; omega) (fun p' c' H' hB' _ hm => ?_) le2
              refine chk (by omega) ⟨⟨i + 1, by omega, by omega, by omega, hm.le le2 fun x hx => hB.fr x 0 (blkL_mem hB.zero hx), ?_⟩, by first | omega | (dsimp only; omega)⟩
              rw [els_on (by simp [hbi, h2])]; simpa [iv] using hB'
            · exact chk (by omega) ⟨⟨i + 1, by omega, by omega, by omega, le2, by rw [els_off (by simp [h2])]; exact hB⟩, by first | omega | (dsimp only; omega)⟩
          · obtain rfl : i = n := by omega
            have hl := hR.len
            have hcl' := crcT_len (M := M) (n := i) (t := b)
            refine (hR.le le2).push (le1.trans le2).was hB.sl (fun x o e => none_of_le le1 (hB.fr x o e)) (fun x hx => hB.there (blkL_mem hB.zero hx)) hB.pt (fun x o o' e e' => ?_) rfl rfl (by decide) (by simp [te_sl_int]; omega) rfl (fun p' c' H' hR' hp' m' => ?_)
            · obtain ⟨hs', _, hB', _⟩ := hR
              exact hB'.there e (hB.fr x o' e')
            · refine chk (by omega) ⟨⟨b + 1, by omega, by omega, m'.le (le1.trans le2) fun x hx => ?_, by rw [crcT_on h1]; exact hR'⟩, by first | omega | (dsimp only; omega)⟩
              obtain ⟨hs', _, hB', _⟩ := hR
              exact hB'.fr x 0 (blkL_mem hB'.zero hx)
  · obtain rfl : a = n := by omega
    exact hK _ _ _ _ hR le1

/-- The first of x's class, the class's place. -/
def hdOf (M : Nat → Nat → Bool) (x : Nat) : Nat := ((List.range (x + 1)).find? fun a => fstM M a && oneM M a x).getD 0
theorem hdOf_spec {M : Nat → Nat → Bool} (hT : Tr M) (x : Nat) : hdOf M x ≤ x ∧ fstM M (hdOf M x) = true ∧ oneM M (hdOf M x) x = true := by
  obtain ⟨a, h1, h2, h3⟩ := first_of hT x
  have : ∃ y, (List.range (x + 1)).find? (fun a => fstM M a && oneM M a x) = some y := by
    cases e : (List.range (x + 1)).find? (fun a => fstM M a && oneM M a x) with
    | some y => exact ⟨y, rfl⟩
    | none =>
      have := List.find?_eq_none.1 e a (by simp; omega)
      simp [h2, h3] at this
  obtain ⟨y, hy⟩ := this
  have h4 := List.find?_some hy
  have h5 := List.mem_of_find?_eq_some hy
  unfold hdOf
  rw [hy]
  simp at h4 h5
  exact ⟨by simpa using (by omega : y ≤ x), h4.1, h4.2⟩
theorem hdOf_eq {M : Nat → Nat → Bool} (hT : Tr M) {a x : Nat} (h : fstM M a = true) (h' : oneM M a x = true) : hdOf M x = a := by
  obtain ⟨_, h2, h3⟩ := hdOf_spec hT x
  exact first_uniq hT h2 h h3 h'
theorem hdOf_one {M : Nat → Nat → Bool} (hT : Tr M) {x y : Nat} : hdOf M x = hdOf M y ↔ oneM M x y = true := by
  obtain ⟨_, h2, h3⟩ := hdOf_spec hT x
  obtain ⟨_, h2', h3'⟩ := hdOf_spec hT y
  constructor
  · intro e
    rw [e, oneM_symm] at h3
    exact oneM_trans hT h3 h3'
  · intro h
    exact first_uniq hT h2 h2' (oneM_trans hT h3 h) h3'
def cidx (M : Nat → Nat → Bool) (n x : Nat) : Nat := (hdsM M n).idxOf (hdOf M x)
theorem hdOf_mem {M : Nat → Nat → Bool} (hT : Tr M) {n x : Nat} (hx : x < n) : hdOf M x ∈ hdsM M n := by
  obtain ⟨h1, h2, _⟩ := hdOf_spec hT x
  exact hds_mem.2 ⟨by omega, h2⟩
theorem cidx_lt {M : Nat → Nat → Bool} (hT : Tr M) {n x : Nat} (hx : x < n) : cidx M n x < (hdsM M n).length := List.idxOf_lt_length_of_mem (hdOf_mem hT hx)
theorem cidx_get {M : Nat → Nat → Bool} (hT : Tr M) {n x : Nat} (hx : x < n) : (hdsM M n)[cidx M n x]'(cidx_lt hT hx) = hdOf M x := List.getElem_idxOf (cidx_lt hT hx)
theorem cidx_iff {M : Nat → Nat → Bool} (hT : Tr M) {n x t : Nat} (hx : x < n) (ht : t < (hdsM M n).length) : cidx M n x = t ↔ hdOf M x = (hdsM M n)[t] := by
  constructor
  · intro e; subst e; exact (cidx_get hT hx).symm
  · intro e
    exact nodup_inj hds_nodup (cidx_lt hT hx) ht (by rw [cidx_get hT hx, e])
theorem crc_len {M : Nat → Nat → Bool} {n : Nat} : (crc M n).length = (hdsM M n).length := by unfold crc; simp
theorem crc_get {M : Nat → Nat → Bool} {n t : Nat} (ht : t < (crc M n).length) : (crc M n)[t] = clsM M n ((hdsM M n)[t]'(by rw [← crc_len]; exact ht)) := List.getElem_map (clsM M n)
theorem crc_mem {M : Nat → Nat → Bool} (hT : Tr M) {n t x : Nat} (ht : t < (crc M n).length) : x ∈ (crc M n)[t] ↔ x < n ∧ cidx M n x = t := by
  have ht' : t < (hdsM M n).length := by rw [← crc_len]; exact ht
  have hm := hds_mem.1 (List.getElem_mem ht')
  rw [crc_get, clsM_mem]
  constructor
  · rintro ⟨h1, h2, h3⟩
    exact ⟨h1, (cidx_iff hT h1 ht').2 (hdOf_eq hT hm.2 h3)⟩
  · rintro ⟨h1, h2⟩
    have h3 := (cidx_iff hT h1 ht').1 h2
    obtain ⟨g1, g2, g3⟩ := hdOf_spec hT x
    rw [h3] at g1 g3
    exact ⟨h1, g1, g3⟩
theorem hds_len {M : Nat → Nat → Bool} {n : Nat} : (hdsM M n).length ≤ n := els_len_le _ _
/-- Places filled as far as row t, its k-th. -/
def filC (M : Nat → Nat → Bool) (n t k x : Nat) : Nat := if cidx M n x < t ∨ (cidx M n x = t ∧ x ∈ ((crc M n).getD t []).take k) then cidx M n x else 0
theorem filC_next {M : Nat → Nat → Bool} (hT : Tr M) {n t k x : Nat} (hx : x < n) (ht : t < (crc M n).length) (hk : (crc M n)[t].length ≤ k) : filC M n t k x = filC M n (t + 1) 0 x := by
  unfold filC
  have e : (crc M n).getD t [] = (crc M n)[t] := by simp [List.getD, ht]
  have hm : x ∈ ((crc M n).getD t []).take k ↔ cidx M n x = t := by
    rw [e, List.take_of_length_le hk, crc_mem hT]; exact ⟨fun g => g.2, fun g => ⟨hx, g⟩⟩
  by_cases h : cidx M n x < t
  · rw [if_pos (.inl h), if_pos (.inl (by omega))]
  · by_cases h' : cidx M n x = t
    · rw [if_pos (.inr ⟨h', hm.2 h'⟩), if_pos (.inl (by omega))]
    · rw [if_neg (by rintro (g | g); exact h g; exact h' g.1), if_neg (by rintro (g | g); omega; simp at g)]
theorem filC_step {M : Nat → Nat → Bool} (hT : Tr M) {n t k x : Nat} (ht : t < (crc M n).length) (hk : k < (crc M n)[t].length) : filC M n t (k + 1) x = if x = (crc M n)[t][k] then t else filC M n t k x := by
  have e : (crc M n).getD t [] = (crc M n)[t] := by simp [List.getD, ht]
  have hm := (crc_mem hT ht).1 (List.getElem_mem hk)
  unfold filC
  have hm2 : x ∈ ((crc M n).getD t []).take (k + 1) ↔ x ∈ ((crc M n).getD t []).take k ∨ x = (crc M n)[t][k] := by
    rw [e, List.take_succ_eq_append_getElem hk, List.mem_append, List.mem_singleton]
  by_cases h : x = (crc M n)[t][k]
  · rw [if_pos (.inr ⟨by rw [h]; exact hm.2, hm2.2 (.inr h)⟩), if_pos h, h, hm.2]
  · rw [if_neg h]
    have hm3 : x ∈ ((crc M n).getD t []).take (k + 1) ↔ x ∈ ((crc M n).getD t []).take k := by rw [hm2]; simp [h]
    simp only [hm3]
theorem filC_end {M : Nat → Nat → Bool} (hT : Tr M) {n x : Nat} (hx : x < n) : filC M n (crc M n).length 0 x = cidx M n x := by
  unfold filC
  rw [if_pos (.inl (by rw [crc_len]; exact cidx_lt hT hx))]
def clss (M : Nat → Nat → Bool) (n : Nat) : List Nat := (List.range n).map (cidx M n)
def PFn (H : Hp) (b n : Nat) (g : Nat → Nat) : Prop := ∀ x, x < n → rd H b x = some (iv (g x))
theorem PFn.sl {H : Hp} {b n c : Nat} {g : Nat → Nat} (h : PFn H b n g) (hc : n ≤ c) : Sl iv H (some ⟨b, 0, none⟩) n c ((List.range n).map g) :=
  ⟨by simp, hc, .inr ⟨b, 0, rfl, fun i hi => by
    simp at hi
    rw [Nat.zero_add, h i hi]; simp⟩⟩
theorem PFn.put {H : Hp} {b n : Nat} {g g' : Nat → Nat} (h : PFn H b n g) {x v : Nat} (hx : x < n) (hg : ∀ y, y < n → g' y = if y = x then v else g y) : PFn (wr H b x (iv v)) b n g' := fun y hy => by
  rw [hg y hy]
  by_cases e : y = x
  · subst e; rw [if_pos rfl, rd_wr_self (h y hy)]
  · rw [if_neg e, rd_wr_off e, h y hy]

end Go.Proofs.YteijgmmjgbgffaaDoor
namespace Go.Proofs.YteijgmmjgbgffaaDoor
open Go.V
/-! ### The row -/
def freeL (M : Nat → Nat → Bool) (rem : List Nat) (h : Nat) : Bool := rem.all fun g => decide (g = h) || !M g h
def srtS (M : Nat → Nat → Bool) (n : Nat) : Nat → List Nat → List Nat
  | 0, _ => []
  | k + 1, rem => match rem.find? (freeL M rem) with
    | none => []
    | some h => clsM M n h ++ srtS M n k (rem.erase h)
def srt (M : Nat → Nat → Bool) (n : Nat) : List Nat := srtS M n (hdsM M n).length (hdsM M n)
theorem srtS_some {M : Nat → Nat → Bool} {n h : Nat} {rem : List Nat} (e : rem.find? (freeL M rem) = some h) : srtS M n rem.length rem = clsM M n h ++ srtS M n (rem.erase h).length (rem.erase h) := by
  have hm := List.mem_of_find?_eq_some e
  have hl := List.length_erase_of_mem hm
  have hp : 0 < rem.length := List.length_pos_of_mem hm
  obtain ⟨k, hk⟩ : ∃ k, rem.length = k + 1 := ⟨rem.length - 1, by omega⟩
  rw [hk, srtS, e, hl, hk]; rfl
theorem srtS_none {M : Nat → Nat → Bool} {n : Nat} {rem : List Nat} (e : rem.find? (freeL M rem) = none) : srtS M n rem.length rem = [] := by
  cases h : rem.length with
  | zero => rfl
  | succ k => rw [srtS, e]
theorem find_at {p : Nat → Bool} {l : List Nat} {i : Nat} (hi : i < l.length) (hp : p l[i] = true) (hn : ∀ j (h : j < i), p (l[j]'(by omega)) = false) : l.find? p = some l[i] := by
  rw [List.find?_eq_some_iff_getElem]
  exact ⟨hp, i, hi, rfl, fun j hj => by rw [hn j hj]; rfl⟩
theorem find_no {p : Nat → Bool} {l : List Nat} (hn : ∀ j (h : j < l.length), p l[j] = false) : l.find? p = none := by
  rw [List.find?_eq_none]
  intro x hx
  obtain ⟨j, hj, rfl⟩ := List.mem_iff_getElem.1 hx
  rw [hn j hj]; decide
theorem map_eraseIdx' {α β : Type} {f : α → β} : ∀ (l : List α) (i : Nat), (l.eraseIdx i).map f = (l.map f).eraseIdx i
  | [], _ => rfl
  | _ :: _, 0 => rfl
  | a :: l, i + 1 => by simp [List.eraseIdx, map_eraseIdx' l i]
theorem erase_get' : ∀ {l : List Nat} (_ : l.Nodup) {i : Nat} (hi : i < l.length), l.erase l[i] = l.eraseIdx i
  | a :: l, hd, 0, _ => by simp
  | a :: l, hd, i + 1, hi => by
    have hi' : i < l.length := by simpa using hi
    have hne : a ≠ l[i] := fun e => (List.nodup_cons.1 hd).1 (e ▸ List.getElem_mem _)
    simp only [List.getElem_cons_succ, List.eraseIdx_cons_succ]
    rw [List.erase_cons_tail (by simpa using hne), erase_get' (List.nodup_cons.1 hd).2 hi']
theorem cls_hd {M : Nat → Nat → Bool} {n a : Nat} (h : a < n) : (clsM M n a).getD 0 0 = a ∧ clsM M n a ≠ [] := by rw [clsM_prog h]; exact ⟨rfl, by simp⟩

theorem order_first.c {c n l cc i : Nat} {M : Nat → Nat → Bool} {O : List Nat} {A H : Hp} {p : Option Addr} {rem : List Nat} {K : Bool → Hp → Prop} (hu : RLO H c O n M) (hR : Rw A H p l cc (rem.map (clsM M n))) (hn : ∀ x ∈ rem, x < n) (hd : rem.Nodup)
    (hi : i < rem.length) (hrl : rem.length ≤ 1000) (hK : K (freeL M rem rem[i]) H) : order_first.C (some ⟨c, 0, none⟩) p l cc (i : Int) H K := by
  apply order_first.of
  have hl := hR.len
  rw [List.length_map] at hl
  refine ⟨fun k Hx => ∃ k' : Nat, k = k' ∧ k' ≤ l ∧ H = Hx ∧ (rem.take k').all (fun g => decide (g = rem[i]) || !M g rem[i]) = true, fun k _ => (l - k).toNat, ⟨0, rfl, by omega, rfl, rfl⟩, ?_⟩
  rintro k _ ⟨k, rfl, hk, rfl, hall⟩
  have hget : ∀ j (h : j < rem.length), (rem.map (clsM M n))[j]'(by simpa using h) = clsM M n rem[j] := fun j h => by simp
  refine bcd (fun h => ?_) (fun h => ?_)
  · have hkr : k < rem.length := by omega
    have e1 := cls_hd (M := M) (hn _ (List.getElem_mem hkr))
    have e2 := cls_hd (M := M) (hn _ (List.getElem_mem hi))
    have next : (decide (rem[k] = rem[i]) || !M rem[k] rem[i]) = true → (rem.take (k + 1)).all (fun g => decide (g = rem[i]) || !M g rem[i]) = true := fun h => by
      rw [List.take_succ_eq_append_getElem hkr, List.all_append, hall]; simpa using h
    refine hR.at rfl (by simpa using hkr) fun q l' c' hs _ _ => ?_
    have hl' := hs.len
    rw [hget k hkr] at hs hl'
    refine bcd (fun hne => ?_) (fun heq => ?_)
    · have hpos : 0 < (clsM M n rem[k]).length := List.length_pos_iff.2 e1.2
      refine slI hs (g := fun (x : Nat) => (x : Int)) (fun _ => rfl) (by omega) (by omega) fun _ => ?_
      have g1 : (clsM M n rem[k])[(0 : Int).toNat]'(by simpa using hpos) = rem[k] := by
        have e := e1.1
        simpa [List.getD, hpos] using e
      rw [g1]
      refine hR.hd rfl (by simpa using hi) (by rw [hget i hi]; exact e2.2) ?_
      rw [hget i hi, e2.1]
      refine rel_Rel_Has.c hu ?_
      rw [hasM_nat]
      refine bc_i (fun hm => ?_) (fun hm => ?_)
      · have : freeL M rem rem[i] = false := by
          unfold freeL
          rw [List.all_eq_false]
          refine ⟨rem[k], List.getElem_mem hkr, ?_⟩
          have hne' : ¬ rem[k] = rem[i] := fun e => by have := nodup_inj hd hkr hi e; omega
          simp [hne', hm]
        rwa [this] at hK
      · exact chk (by omega) ⟨⟨k + 1, by omega, by omega, rfl, next (by rw [hm]; simp)⟩, by first | omega | (dsimp only; omega)⟩
    · have : k = i := by omega
      subst this
      exact chk (by omega) ⟨⟨k + 1, by omega, by omega, rfl, next (by simp)⟩, by first | omega | (dsimp only; omega)⟩
  · have e : freeL M rem rem[i] = true := by
      rw [List.take_of_length_le (by omega)] at hall; exact hall
    rwa [e] at hK

theorem order_Sort.n {r : Option Addr} {n : Nat} {M : Nat → Nat → Bool} {H : Hp} {K : Option Addr → Nat → Nat → Hp → Prop} (hu : RN H r n M) (hn : n ≤ 200)
    (hK : ∀ p l cc H', Sl iv H' p l cc (srt (clo M n) n) → New H p → Le H H' → K p l cc H') : order_Sort.C r H K := by
  apply order_Sort.of
  refine order_closed.c hu fun R O H1 u hT hO le1 => ?_
  refine order_circles.c u hT fun p0 l0 c0 H2 hR le2 => ?_
  have hhl := hds_len (M := clo M n) (n := n)
  have u2 := u.le le2
  have fresh : ∀ x ∈ blkL p0, H x = none ∧ H1 x = none := fun x hx => by
    obtain ⟨hs, _, hB, _⟩ := hR
    have := hB.fr x 0 (blkL_mem hB.zero hx)
    exact ⟨none_of_le le1 this, this⟩
  have there0 : ∀ x ∈ blkL p0, H2 x ≠ none := fun x hx => by
    obtain ⟨hs, _, hB, _⟩ := hR
    exact hB.there (blkL_mem hB.zero hx)
  let P : Hd × Nat → Prop := fun z => Sl iv H2 z.1.1 z.1.2.1 z.1.2.2 (clsM (clo M n) n z.2) ∧ New H1 z.1.1 ∧ (∀ x ∈ blkL z.1.1, H2 x ≠ none) ∧ PtOk z.1.1 ∧ Apart p0 z.1.1 ∧ z.2 < n
  -- the state as rows
  have toRw : ∀ {Hx : Hp} {l c : Nat} {zs : List (Hd × Nat)}, Buf 1 H1 Hx p0 l c ((zs.map Prod.fst).map hv) → (∀ z ∈ zs, P z) → Mod (blkL p0) H2 Hx → Rw H1 Hx p0 l c ((zs.map Prod.snd).map (clsM (clo M n) n)) := by
    intro Hx l c zs hB hP hm
    refine ⟨zs.map Prod.fst, by simp, hB, fun k h h' => ?_⟩
    simp only [List.getElem_map]
    obtain ⟨g1, g2, g3, g4, g5, _⟩ := hP _ (List.getElem_mem (by simpa using h))
    have hno : ∀ x ∈ blkL (zs[k]'(by simpa using h)).1.1, x ∉ blkL p0 := fun x hx hb => by
      obtain ⟨hs, _, hB, _⟩ := hR
      have hpz := blkL_mem hB.zero hb
      rcases g4 with e | ⟨b', o, e⟩
      · rw [e] at hx; simp [blkL] at hx
      · rw [e] at hx; simp [blkL] at hx; subst hx; exact g5 _ _ _ hpz e
    exact ⟨g1.mod hm fun x o e => hno x (blkL_some e), g2, fun x hx => by rw [eq_of_mod hm (hno x hx) (g3 x hx)]; exact g3 x hx, g4, g5⟩
  have start : ∃ zs : List (Hd × Nat), Buf 1 H1 H2 p0 l0 c0 ((zs.map Prod.fst).map hv) ∧ (∀ z ∈ zs, P z) ∧ zs.map Prod.snd = hdsM (clo M n) n := by
    obtain ⟨hs, h1, h2, h3⟩ := hR
    rw [crc_len] at h1
    refine ⟨hs.zip (hdsM (clo M n) n), ?_, fun z hz => ?_, ?_⟩
    · rw [List.map_fst_zip (by omega)]; exact h2
    · obtain ⟨k, hk, rfl⟩ := List.mem_iff_getElem.1 hz
      have hk1 : k < hs.length := by simp at hk; omega
      have hk2 : k < (crc (clo M n) n).length := by rw [crc_len]; omega
      obtain ⟨g1, g2, g3, g4, g5⟩ := h3 k hk1 hk2
      simp only [List.getElem_zip]
      rw [crc_get] at g1
      exact ⟨g1, g2, g3, g4, g5, (hds_mem.1 (List.getElem_mem _)).1⟩
    · rw [List.map_snd_zip (by omega)]
  obtain ⟨zs0, hB0, hP0, hz0⟩ := start
  refine ⟨fun cp cl cc op ol oc Hx => ∃ (zs : List (Hd × Nat)) (out : List Nat), cp = p0 ∧ Buf 1 H1 Hx cp cl cc ((zs.map Prod.fst).map hv) ∧ (∀ z ∈ zs, P z) ∧ (zs.map Prod.snd).Nodup ∧ zs.length ≤ n ∧ Mod (blkL p0) H2 Hx ∧ Buf 1 H2 Hx op ol oc (out.map iv) ∧
    out ++ srtS (clo M n) n zs.length (zs.map Prod.snd) = srt (clo M n) n ∧ out.length + n * zs.length ≤ n * n, fun _ cl _ _ _ _ _ => cl,
    ⟨zs0, [], rfl, hB0, hP0, by rw [hz0]; exact hds_nodup, by have : zs0.length = (hdsM (clo M n) n).length := by rw [← hz0]; simp
                                                              omega, .refl, Buf.none, ?_, ?_⟩, ?_⟩
  · have : zs0.length = (hdsM (clo M n) n).length := by rw [← hz0]; simp
    rw [this, hz0]; rfl
  · have : zs0.length = (hdsM (clo M n) n).length := by rw [← hz0]; simp
    simp only [List.length_nil, Nat.zero_add]
    exact Nat.mul_le_mul_left n (by omega)
  rintro cp cl cc op ol oc Hx ⟨zs, out, rfl, hB, hP, hnd, hzl, mx, hO', hsrt, hlen⟩
  have hcl : cl = zs.length := by have := hB.1; simpa using this
  have hol : ol = out.length := by have := hO'.1; simpa using this
  have h40 : n * n ≤ 40000 := Nat.mul_le_mul hn hn
  refine bcd (fun h => ?_) (fun h => ?_)
  · refine ⟨fun cp' cl' cc' op' ol' oc' i Hy => ∃ i' : Nat, i = i' ∧ i' ≤ cl ∧ cp = cp' ∧ cl = cl' ∧ cc = cc' ∧ op = op' ∧ ol = ol' ∧ oc = oc' ∧ Hx = Hy ∧ ∀ j (h : j < i') (h' : j < (zs.map Prod.snd).length), freeL (clo M n) (zs.map Prod.snd) (zs.map Prod.snd)[j] = false, fun _ _ _ _ _ _ i _ => (cl - i).toNat,
      ⟨0, rfl, by omega, rfl, rfl, rfl, rfl, rfl, rfl, rfl, fun j h => absurd h (Nat.not_lt_zero _)⟩, ?_⟩
    rintro _ _ _ _ _ _ i _ ⟨i, rfl, hi, rfl, rfl, rfl, rfl, rfl, rfl, rfl, hno⟩
    have hRw := toRw hB hP mx
    refine bcd (fun h => ?_) (fun h => ?_)
    · have hiz : i < zs.length := by omega
      have him : i < (zs.map Prod.snd).length := by simpa using hiz
      have hux : RLO Hx R O n (clo M n) := u2.mod mx (fun x hx hxO => u.there _ hxO (fresh x hx).2) (fun hx => u.tz.there (fresh _ hx).2)
      refine hRw.at rfl (by simpa using hiz) fun q l' c' hs hpt _ => ?_
      have hs' : Sl iv Hx q l' c' (clsM (clo M n) n (zs.map Prod.snd)[i]) := by simpa using hs
      have hl' := hs'.len
      have hcn := clsM_len (M := clo M n) (n := n) (a := (zs.map Prod.snd)[i])
      refine order_first.c hux hRw (fun x hx => by obtain ⟨z, hz, rfl⟩ := List.mem_map.1 hx; exact (hP z hz).2.2.2.2.2) hnd him (by simp; omega) ?_
      refine bc_i (fun hf => ?_) (fun hf => ?_)
      · have hfind := find_at (p := freeL (clo M n) (zs.map Prod.snd)) him hf fun j hj => hno j hj (by omega)
        have hsome := srtS_some (n := n) hfind
        rw [List.length_map] at hsome
        have her : (zs.map Prod.snd).erase (zs.map Prod.snd)[i] = (zs.eraseIdx i).map Prod.snd := by
          rw [map_eraseIdx']
          exact erase_get' hnd him
        have hle1 : (zs.eraseIdx i).length = zs.length - 1 := List.length_eraseIdx_of_lt hiz
        have hmul : n + n * (zs.length - 1) = n * zs.length := by
          obtain ⟨k, hk⟩ : ∃ k, zs.length = k + 1 := ⟨zs.length - 1, by omega⟩
          rw [hk, Nat.add_sub_cancel, Nat.mul_add, Nat.mul_one, Nat.add_comm]
        refine hO'.appS (n := l') (new := (clsM (clo M n) n (zs.map Prod.snd)[i]).map iv) rfl (by decide) rfl (by decide) (by simp [hl']) (by rw [List.all_eq_true]; intro v hvv; obtain ⟨y, _, rfl⟩ := List.mem_map.1 hvv; rfl) (by simp [te_int]; omega)
          (fun G hG => sl_srcG hs' hpt G hG) (fun p' c' H' hO2 hp' hm => ?_) ?_
        · refine chk (by omega) ?_
          have hpo : ∀ x ∈ blkL op, H2 x = none := fun x hx => hO'.fr x 0 (blkL_mem hO'.zero hx)
          have hB2 := hB.mod hm fun x o e hx => there0 x (blkL_some e) (hpo x hx)
          refine slices_Delete_int_int.c hB2 (by simpa using hiz) rfl fun H3 hB3 m3 => ?_
          have hO3 := hO2.mod m3 fun x o e hx => there0 x hx (hO2.fr x o e)
          refine ⟨⟨zs.eraseIdx i, out ++ clsM (clo M n) n (zs.map Prod.snd)[i], rfl, by rw [map_eraseIdx']; exact hB3, fun z hz => hP z (List.mem_of_mem_eraseIdx hz), by rw [← her]; exact hnd.erase _, by omega,
            (mx.via hm fun x hx => .inr (hpo x hx)).trans m3, by rw [List.map_append]; exact hO3, ?_, ?_⟩, by first | omega | (dsimp only; omega)⟩
          · rw [List.append_assoc, ← her, ← hsrt, hsome, her, List.length_map]
          · rw [List.length_append]
            have : n * (zs.eraseIdx i).length = n * (zs.length - 1) := by rw [hle1]
            omega
        · exact mx.was fun x hx => hB.there (blkL_mem hB.zero hx)
      · exact chk (by omega) ⟨⟨i + 1, by omega, by omega, rfl, rfl, rfl, rfl, rfl, rfl, rfl, fun j hj hj' => by
          by_cases e : j = i
          · subst e; exact hf
          · exact hno j (by omega) hj'⟩, by first | omega | (dsimp only; omega)⟩
    · have hfind := find_no (p := freeL (clo M n) (zs.map Prod.snd)) (l := zs.map Prod.snd) fun j hj => hno j (by simp at hj; omega) hj
      have hnone := srtS_none (n := n) hfind
      rw [List.length_map] at hnone
      rw [hnone, List.append_nil] at hsrt
      rw [← hsrt] at hK
      exact hK _ _ _ _ hO'.sl (fun b o e => none_of_le (by first | exact le1 | exact (le1.trans le2)) (hO'.fr b o e)) (mx.le (le1.trans le2) fun x hx => (fresh x hx).1)
  · have h0 : zs = [] := List.length_eq_zero_iff.1 (by omega)
    subst h0
    have e : out = srt (clo M n) n := by simpa [srtS] using hsrt
    rw [← e] at hK
    exact hK _ _ _ _ hO'.sl (fun b o e => none_of_le (by first | exact le1 | exact (le1.trans le2)) (hO'.fr b o e)) (mx.le (le1.trans le2) fun x hx => (fresh x hx).1)
theorem order_Sort.c {r : Option Addr} {n : Nat} {M : Nat → Nat → Bool} {H : Hp} {K : Option Addr → Nat → Nat → Hp → Prop} (hu : RN H r n M) (hn : n ≤ 200)
    (hK : ∀ p l cc H', Sl iv H' p l cc (srt (clo M n) n) → Le H H' → K p l cc H') : order_Sort.C r H K := order_Sort.n hu hn fun p l cc H' h _ hle => hK p l cc H' h hle
end Go.Proofs.YteijgmmjgbgffaaDoor
namespace Go.Proofs.YteijgmmjgbgffaaDoor
open Go.V
theorem heads {A H : Hp} {p : Option Addr} {l c n : Nat} {M : Nat → Nat → Bool} {hs : List Nat} (hR : Rw A H p l c (hs.map (clsM M n))) {i : Int} {k : Nat} (hi : i = (k : Int)) (hk : k < hs.length) (hn : hs[k] < n) {F : Int → Prop} (hF : F ((hs[k] : Nat) : Int)) :
    IDX i l fun j => NIL p fun b o => ldL (rd H b (o + j)) fun xp xl _ => IDX (0 : Int) xl fun k2 => NIL xp fun b2 o2 => ldI .i64 (rd H b2 (o2 + k2)) F := by
  have e := cls_hd (M := M) hn
  have hget : (hs.map (clsM M n))[k]'(by simpa using hk) = clsM M n hs[k] := by simp
  refine hR.hd hi (by simpa using hk) (by rw [hget]; exact e.2) ?_
  rw [hget, e.1]; exact hF
section
variable {H A : Hp} {m B : Nat} {bs hs : List Nat} {n : Nat} {M N : Nat → Nat → Bool} {p : Option Addr} {l c : Nat}
/-- Is one class's first ahead of another one's? -/
theorem RF.look (h : RF H m B bs n M) (hR : Rw A H p l c (hs.map (clsM N n))) (hn : ∀ x ∈ hs, x < n) {i j : Int} {a b : Nat} (hi : i = (a : Int)) (ha : a < hs.length) (hj : j = (b : Int)) (hb : b < hs.length) {F : Bool → Prop} (hF : F (M hs[a] hs[b])) :
    NIL (some ⟨m, 0, none⟩) fun bq oq => ldL (rd H bq (oq + 1)) fun xp xl _ => IDX i l fun k => NIL p fun b1 o1 => ldL (rd H b1 (o1 + k)) fun xp2 xl2 _ => IDX (0 : Int) xl2 fun k2 => NIL xp2 fun b2 o2 => ldI .i64 (rd H b2 (o2 + k2)) fun x =>
      IDX x xl fun k3 => NIL xp fun b3 o3 => ldL (rd H b3 (o3 + k3)) fun xp4 xl4 _ => IDX j l fun k5 => NIL p fun b5 o5 => ldL (rd H b5 (o5 + k5)) fun xp6 xl6 _ => IDX (0 : Int) xl6 fun k6 => NIL xp6 fun b6 o6 => ldI .i64 (rd H b6 (o6 + k6)) fun y =>
        IDX y xl4 fun k7 => NIL xp4 fun b7 o7 => ldB (rd H b7 (o7 + k7)) F := by
  have h1 := hn _ (List.getElem_mem ha)
  have h2 := hn _ (List.getElem_mem hb)
  obtain ⟨q, c', g1, g2, g3⟩ := h.hm
  obtain rfl := g3.resolve_left (by omega)
  refine nil (ldL_i (by rw [Nat.zero_add]; exact g1) ?_)
  refine heads hR hi ha h1 ?_
  refine idxN _ rfl h1 (nil ?_)
  refine ldL_i (by rw [Nat.zero_add]; exact h.ptr _ (by rw [h.lb]; exact h1)) ?_
  refine heads hR hj hb h2 ?_
  refine idxN _ rfl h2 (nil ?_)
  exact ldB_i (by rw [Nat.zero_add]; exact h.row _ (by rw [h.lb]; exact h1) _ h2) hF
theorem RFO.look {O : List Nat} (h : RFO H m O n M) (hR : Rw A H p l c (hs.map (clsM N n))) (hn : ∀ x ∈ hs, x < n) {i j : Int} {a b : Nat} (hi : i = (a : Int)) (ha : a < hs.length) (hj : j = (b : Int)) (hb : b < hs.length) {F : Bool → Prop} (hF : F (M hs[a] hs[b])) :
    NIL (some ⟨m, 0, none⟩) fun bq oq => ldL (rd H bq (oq + 1)) fun xp xl _ => IDX i l fun k => NIL p fun b1 o1 => ldL (rd H b1 (o1 + k)) fun xp2 xl2 _ => IDX (0 : Int) xl2 fun k2 => NIL xp2 fun b2 o2 => ldI .i64 (rd H b2 (o2 + k2)) fun x =>
      IDX x xl fun k3 => NIL xp fun b3 o3 => ldL (rd H b3 (o3 + k3)) fun xp4 xl4 _ => IDX j l fun k5 => NIL p fun b5 o5 => ldL (rd H b5 (o5 + k5)) fun xp6 xl6 _ => IDX (0 : Int) xl6 fun k6 => NIL xp6 fun b6 o6 => ldI .i64 (rd H b6 (o6 + k6)) fun y =>
        IDX y xl4 fun k7 => NIL xp4 fun b7 o7 => ldB (rd H b7 (o7 + k7)) F := by
  obtain ⟨B, bs, rfl, h⟩ := h
  exact h.look hR hn hi ha hj hb hF
end

theorem centoref2_Rel_free.c {m n l cc i b dc : Nat} {M : Nat → Nat → Bool} {O : List Nat} {A H : Hp} {p : Option Addr} {hs : List Nat} {d : Nat → Bool} {K : Bool → Hp → Prop} (hu : RFO H m O n M) (hR : Rw A H p l cc (hs.map (clsM M n))) (hn : ∀ x ∈ hs, x < n) (hd : hs.Nodup)
    (hD : ∀ k (h : k < hs.length), rd H b k = some (.bool (!d hs[k]))) (hi : i < hs.length) (hrl : hs.length ≤ 1000) (hK : K (freeL M (hs.filter d) hs[i]) H) : centoref2_Rel_free.C (some ⟨m, 0, none⟩) p l cc (some ⟨b, 0, none⟩) l dc (i : Int) H K := by
  apply centoref2_Rel_free.of
  have hl := hR.len
  rw [List.length_map] at hl
  refine ⟨fun k Hx => ∃ k' : Nat, k = k' ∧ k' ≤ l ∧ H = Hx ∧ (hs.take k').all (fun g => !d g || (decide (g = hs[i]) || !M g hs[i])) = true, fun k _ => (l - k).toNat, ⟨0, rfl, by omega, rfl, rfl⟩, ?_⟩
  rintro k _ ⟨k, rfl, hk, rfl, hall⟩
  have efree : freeL M (hs.filter d) hs[i] = hs.all (fun g => !d g || (decide (g = hs[i]) || !M g hs[i])) := by
    unfold freeL; rw [List.all_filter]
  refine bcd (fun h => ?_) (fun h => ?_)
  · have hkr : k < hs.length := by omega
    have next : (!d hs[k] || (decide (hs[k] = hs[i]) || !M hs[k] hs[i])) = true → (hs.take (k + 1)).all (fun g => !d g || (decide (g = hs[i]) || !M g hs[i])) = true := fun h => by
      rw [List.take_succ_eq_append_getElem hkr, List.all_append, hall]; simpa using h
    refine bcd (fun hne => ?_) (fun heq => ?_)
    · refine idxN k rfl (by omega) (nil (ldB_i (by rw [Nat.zero_add]; exact hD k hkr) ?_))
      rw [Bool.not_not]
      refine bc_i (fun hdk => ?_) (fun hdk => ?_)
      · refine hu.look hR hn rfl hkr rfl hi ?_
        refine bc_i (fun hm => ?_) (fun hm => ?_)
        · have : freeL M (hs.filter d) hs[i] = false := by
            rw [efree, List.all_eq_false]
            refine ⟨hs[k], List.getElem_mem hkr, ?_⟩
            have hne' : ¬ hs[k] = hs[i] := fun e => by have := nodup_inj hd hkr hi e; omega
            simp [hne', hm, hdk]
          rwa [this] at hK
        · exact chk (by omega) ⟨⟨k + 1, by omega, by omega, rfl, next (by rw [hm]; simp)⟩, by first | omega | (dsimp only; omega)⟩
      · exact chk (by omega) ⟨⟨k + 1, by omega, by omega, rfl, next (by rw [hdk]; simp)⟩, by first | omega | (dsimp only; omega)⟩
    · have : k = i := by omega
      subst this
      exact chk (by omega) ⟨⟨k + 1, by omega, by omega, rfl, next (by simp)⟩, by first | omega | (dsimp only; omega)⟩
  · have e : freeL M (hs.filter d) hs[i] = true := by
      rw [List.take_of_length_le (by omega)] at hall; rw [efree]; exact hall
    rwa [e] at hK

theorem centoref2_Rel_Sort.c {m n : Nat} {M : Nat → Nat → Bool} {O : List Nat} {H : Hp} {K : Option Addr → Nat → Nat → Hp → Prop} (hu : RFO H m O n M)
    (hK : ∀ p l cc H', Sl iv H' p l cc (srt M n) → Le H H' → K p l cc H') : centoref2_Rel_Sort.C (some ⟨m, 0, none⟩) H K := by
  apply centoref2_Rel_Sort.of
  have hlim := hu.lim
  refine centoref2_Rel_Circles.c hu fun p l cc H1 hR le1 => ?_
  have hl := hR.len
  have hhl := hds_len (M := M) (n := n)
  rw [crc_len] at hl
  have hnn : ∀ x ∈ hdsM M n, x < n := fun x hx => (hds_mem.1 hx).1
  have hnd := hds_nodup (M := M) (n := n)
  refine mk rfl (by omega) (by omega) ?_
  intro b hb
  have le2 : Le H1 (upd H1 b (rep l [.bool false])) := .upd hb
  have r2 : ∀ x, x < l → rd (upd H1 b (rep l [.bool false])) b x = some (.bool false) := fun x hx => rd_rep hx
  have t2 : upd H1 b (rep l [.bool false]) b ≠ none := by unfold upd; rw [if_pos rfl]; intro e; cases e
  generalize upd H1 b (rep l [.bool false]) = H2 at *
  have fb : H b = none := none_of_le le1 hb
  have le12 := le1.trans le2
  have h40 : n * n ≤ 40000 := Nat.mul_le_mul hlim hlim
  have hR' : Rw H H1 p l cc ((hdsM M n).map (clsM M n)) := hR
  have ft : ∀ l : List Nat, l.filter (fun _ => true) = l := fun l => List.filter_eq_self.2 (by simp)
  have hsrt0 : ([] : List Nat) ++ srtS M n (hdsM M n).length (hdsM M n) = srt M n := rfl
  generalize hdsM M n = hs at *
  have keep : ∀ H', Mod [b] H2 H' → Le H1 H' := fun H' hm => hm.le le2 (none1 hb)
  refine ⟨fun op ol oc nn Hx => ∃ (n' : Nat) (d : Nat → Bool) (out : List Nat), nn = n' ∧ n' ≤ l ∧ Mod [b] H2 Hx ∧ (∀ k (h : k < hs.length), rd Hx b k = some (.bool (!d hs[k]))) ∧ Buf 1 H2 Hx op ol oc (out.map iv) ∧
    out ++ srtS M n (hs.filter d).length (hs.filter d) = srt M n ∧ ((hs.filter d).length + n' = l ∨ (hs.filter d).find? (freeL M (hs.filter d)) = none) ∧ out.length + n * (hs.filter d).length ≤ n * n, fun _ _ _ nn _ => (l - nn).toNat,
    ⟨0, fun _ => true, [], rfl, by omega, .refl, fun k hk => r2 k (by omega), Buf.none, ?_, .inl ?_, ?_⟩, ?_⟩
  · rw [ft]; exact hsrt0
  · rw [ft]; omega
  · rw [ft, List.length_nil, Nat.zero_add]; exact Nat.mul_le_mul_left n hhl
  rintro op ol oc nn Hx ⟨n', d, out, rfl, hn', mx, hD, hO', hsrt, hor, hlen⟩
  have hol : ol = out.length := by have := hO'.1; simpa using this
  refine bcd (fun h => ?_) (fun h => ?_)
  · refine ⟨fun op' ol' oc' i Hy => ∃ i' : Nat, i = i' ∧ i' ≤ l ∧ op = op' ∧ ol = ol' ∧ oc = oc' ∧ Hx = Hy ∧ ∀ j (h : j < i') (h' : j < hs.length), (d hs[j] && freeL M (hs.filter d) hs[j]) = false, fun _ _ _ i _ => (l - i).toNat,
      ⟨0, rfl, by omega, rfl, rfl, rfl, rfl, fun j h => absurd h (Nat.not_lt_zero _)⟩, ?_⟩
    rintro _ _ _ i _ ⟨i, rfl, hi, rfl, rfl, rfl, rfl, hno⟩
    have leX := keep Hx mx
    refine bcd (fun h => ?_) (fun h => ?_)
    · have hih : i < hs.length := by omega
      have next : (d hs[i] && freeL M (hs.filter d) hs[i]) = false → ∀ j (h : j < i + 1) (h' : j < hs.length), (d hs[j] && freeL M (hs.filter d) hs[j]) = false := fun hf j hj hj' => by
        by_cases e : j = i
        · subst e; exact hf
        · exact hno j (by omega) hj'
      refine idxN i rfl (by omega) (ldB_i (by rw [Nat.zero_add]; exact hD i hih) ?_)
      refine bcn (fun hdi => ?_) (fun hdi => ?_)
      · exact chk (by omega) ⟨⟨i + 1, by omega, by omega, rfl, rfl, rfl, rfl, next (by rw [hdi]; rfl)⟩, by first | omega | (dsimp only; omega)⟩
      · refine centoref2_Rel_free.c (hu.le (le1.trans leX)) (hR'.le leX) hnn hnd hD hih (by omega) ?_
        refine bcn (fun hf => ?_) (fun hf => ?_)
        · exact chk (by omega) ⟨⟨i + 1, by omega, by omega, rfl, rfl, rfl, rfl, next (by rw [hf]; simp)⟩, by first | omega | (dsimp only; omega)⟩
        · have hfind : (hs.filter d).find? (freeL M (hs.filter d)) = some hs[i] := by
            rw [List.find?_filter]
            exact find_at hih (by rw [hdi, hf]; rfl) fun j hj => by
              have := hno j hj (by omega)
              rw [Bool.decide_and, Bool.decide_eq_true, Bool.decide_eq_true]; exact this
          have hsome := srtS_some (n := n) hfind
          have hmem := List.mem_of_find?_eq_some hfind
          have hle1 := List.length_erase_of_mem hmem
          have hpos := List.length_pos_of_mem hmem
          have her : hs.filter (fun h => d h && !decide (h = hs[i])) = (hs.filter d).erase hs[i] := by
            rw [List.Nodup.erase_eq_filter (hnd.filter d), List.filter_filter]
            congr 1
            funext h
            rw [Bool.and_comm]
            congr 1
          have hmul : n + n * ((hs.filter d).length - 1) = n * (hs.filter d).length := by
            obtain ⟨k, hk⟩ : ∃ k, (hs.filter d).length = k + 1 := ⟨(hs.filter d).length - 1, by omega⟩
            rw [hk, Nat.add_sub_cancel, Nat.mul_add, Nat.mul_one, Nat.add_comm]
          refine idxN i rfl (by omega) ?_
          refine st0 (hD i hih) ?_
          have m3 : Mod [b] H2 (wr Hx b i (.bool true)) := mx.wr (.inl (by simp))
          have mX3 : Mod [b] Hx (wr Hx b i (.bool true)) := Mod.refl.wr (.inl (by simp))
          have hD3 : ∀ k (h : k < hs.length), rd (wr Hx b i (.bool true)) b k = some (.bool (!(d hs[k] && !decide (hs[k] = hs[i])))) := fun k hk => by
            by_cases e : k = i
            · subst e; rw [rd_wr_self (hD k hk)]; simp
            · have : ¬ hs[k] = hs[i] := fun e' => e (nodup_inj hnd hk hih e')
              rw [rd_wr_off e, hD k hk]; simp [this]
          generalize wr Hx b i (.bool true) = H3 at *
          have leH3 := keep H3 m3
          have t3 : ∀ x ∈ [b], H3 x ≠ none := fun x hx => by simp at hx; subst hx; exact ne_none_of_rd (hD3 i hih)
          refine (hR'.le leH3).at rfl (by simpa using hih) fun q l' c' hs' hpt _ => ?_
          have hs2 : Sl iv H3 q l' c' (clsM M n hs[i]) := by simpa using hs'
          have hl' := hs2.len
          have hcn := clsM_len (M := M) (n := n) (a := hs[i])
          have hO3 : Buf 1 H2 H3 op ol oc (out.map iv) := hO'.mod mX3 fun x o e hx => by simp at hx; subst hx; exact t2 (hO'.fr x o e)
          refine hO3.appS (n := l') (new := (clsM M n hs[i]).map iv) rfl (by decide) rfl (by decide) (by simp [hl']) (by rw [List.all_eq_true]; intro v hvv; obtain ⟨y, _, rfl⟩ := List.mem_map.1 hvv; rfl) (by simp [te_int]; omega)
            (fun G hG => sl_srcG hs2 hpt G hG) (fun p' c' H4 hO4 hp' hm => ?_) (m3.was t3)
          have hpo : ∀ x ∈ blkL op, H2 x = none := fun x hx => hO'.fr x 0 (blkL_mem hO'.zero hx)
          have hbo : b ∉ blkL op := fun hx => t2 (hpo b hx)
          refine chk (by omega) ⟨⟨n' + 1, fun h => d h && !decide (h = hs[i]), out ++ clsM M n hs[i], by omega, by omega, m3.via hm fun x hx => .inr (hpo x hx), fun k hk => hm.rd hbo (hD3 k hk), by rw [List.map_append]; exact hO4, ?_, ?_, ?_⟩, by first | omega | (dsimp only; omega)⟩
          · rw [her, List.append_assoc, ← hsrt, hsome]
          · rw [her]
            rcases hor with h1 | h1
            · left; omega
            · rw [h1] at hfind; cases hfind
          · rw [her, List.length_append, hle1]; omega
    · have hnone : (hs.filter d).find? (freeL M (hs.filter d)) = none := by
        rw [List.find?_filter]
        exact find_no fun j hj => by
          have := hno j (by omega) hj
          rw [Bool.decide_and, Bool.decide_eq_true, Bool.decide_eq_true]; exact this
      exact chk (by omega) ⟨⟨n' + 1, d, out, by omega, by omega, mx, hD, hO', hsrt, .inr hnone, hlen⟩, by first | omega | (dsimp only; omega)⟩
  · obtain rfl : n' = l := by omega
    have e0 : srtS M n (hs.filter d).length (hs.filter d) = [] := by
      rcases hor with h1 | h1
      · rw [show (hs.filter d).length = 0 by omega]; rfl
      · exact srtS_none h1
    rw [e0, List.append_nil] at hsrt
    rw [← hsrt] at hK
    exact hK _ _ _ _ hO'.sl (le1.trans (keep Hx mx))

/-! ### Orders -/
def ordB (M : Nat → Nat → Bool) (n : Nat) : Bool := (List.range n).all fun a => !M a a
def totB (M : Nat → Nat → Bool) (n : Nat) : Bool := ordB M n && (List.range n).all fun a => (List.range n).all fun b => decide (a = b) || (M a b || M b a)
theorem ordB_iff {M : Nat → Nat → Bool} {n : Nat} : ordB M n = true ↔ ∀ a, a < n → M a a = false := by unfold ordB; simp
theorem totB_iff {M : Nat → Nat → Bool} {n : Nat} : totB M n = true ↔ (∀ a, a < n → M a a = false) ∧ ∀ a, a < n → ∀ b, b < n → a = b ∨ M a b = true ∨ M b a = true := by
  unfold totB; rw [Bool.and_eq_true, ordB_iff]; simp
theorem centoref2_Rel_IsOrder.c {m n : Nat} {M : Nat → Nat → Bool} {O : List Nat} {H : Hp} {K : Bool → Hp → Prop} (hu : RFO H m O n M) (hK : K (ordB M n) H) : centoref2_Rel_IsOrder.C (some ⟨m, 0, none⟩) H K := by
  apply centoref2_Rel_IsOrder.of
  have hlim := hu.lim
  refine ⟨fun t Hx => ∃ t' : Nat, t = t' ∧ t' ≤ n ∧ H = Hx ∧ ∀ a, a < t' → M a a = false, fun t _ => (n - t).toNat, ⟨0, rfl, by omega, rfl, fun a h => absurd h (Nat.not_lt_zero _)⟩, ?_⟩
  rintro t _ ⟨t, rfl, ht, rfl, hall⟩
  refine hu.len ?_
  refine bcd (fun h => ?_) (fun h => ?_)
  · refine hu.get rfl (by omega) rfl (by omega) ?_
    refine bc_i (fun hm => ?_) (fun hm => ?_)
    · have e : ordB M n = false := by
        rw [← Bool.not_eq_true, ordB_iff]
        intro h'
        have := h' t (by omega)
        rw [hm] at this; cases this
      rwa [e] at hK
    · refine chk (by omega) ⟨⟨t + 1, by omega, by omega, rfl, fun a ha => ?_⟩, by first | omega | (dsimp only; omega)⟩
      by_cases e : a = t
      · subst e; exact hm
      · exact hall a (by omega)
  · have e : ordB M n = true := ordB_iff.2 fun a ha => hall a (by omega)
    rwa [e] at hK
/-- One step of IsTotal. -/
def totP (M : Nat → Nat → Bool) (a b : Nat) : Prop := ¬ (M a b = true ∧ M b a = true) ∧ (a = b ∨ M a b = true ∨ M b a = true)
theorem totB_of {M : Nat → Nat → Bool} {n : Nat} (hT : Tr M) : totB M n = true ↔ ∀ a, a < n → ∀ b, b < n → totP M a b := by
  rw [totB_iff]
  constructor
  · rintro ⟨h1, h2⟩ a ha b hb
    refine ⟨fun ⟨g1, g2⟩ => ?_, h2 a ha b hb⟩
    have := hT _ _ _ g1 g2
    rw [h1 a ha] at this; cases this
  · intro h
    refine ⟨fun a ha => ?_, fun a ha b hb => (h a ha b hb).2⟩
    cases e : M a a with
    | false => rfl
    | true => exact absurd ⟨e, e⟩ (h a ha a ha).1
theorem order_IsTotal.c {r : Option Addr} {n : Nat} {M : Nat → Nat → Bool} {H : Hp} {K : Bool → Hp → Prop} (hu : RN H r n M) (hn : n ≤ 200) (hK : ∀ H', Le H H' → K (totB (clo M n) n) H') : order_IsTotal.C r H K := by
  apply order_IsTotal.of
  refine order_closed.c hu fun R O H1 u hT hO le1 => ?_
  refine rel_Rel_Len.c u ?_
  generalize clo M n = N at *
  refine ⟨fun t Hx => ∃ t' : Nat, t = t' ∧ t' ≤ n ∧ H1 = Hx ∧ ∀ a, a < t' → ∀ b, b < n → totP N a b, fun t _ => (n - t).toNat, ⟨0, rfl, by omega, rfl, fun a h => absurd h (Nat.not_lt_zero _)⟩, ?_⟩
  rintro t _ ⟨t, rfl, ht, rfl, hall⟩
  refine bcd (fun h => ?_) (fun h => ?_)
  · have htn : t < n := by omega
    refine rel_Rel_Len.c u ?_
    refine ⟨fun x Hx => ∃ x' : Nat, x = x' ∧ x' ≤ n ∧ H1 = Hx ∧ ∀ b, b < x' → totP N t b, fun x _ => (n - x).toNat, ⟨0, rfl, by omega, rfl, fun a h => absurd h (Nat.not_lt_zero _)⟩, ?_⟩
    rintro x _ ⟨x, rfl, hx, rfl, hin⟩
    refine bcd (fun h => ?_) (fun h => ?_)
    · have hxn : x < n := by omega
      have no : ¬ totP N t x → K false H1 := fun hno => by
        have e : totB N n = false := by
          rw [← Bool.not_eq_true, totB_of hT]
          exact fun h' => hno (h' t htn x hxn)
        rw [← e]; exact hK _ le1
      have go : totP N t x → CHK .i64 ((x : Int) + 1) fun x' => (∃ k : Nat, x' = k ∧ k ≤ n ∧ H1 = H1 ∧ ∀ b, b < k → totP N t b) ∧ (n - x').toNat < (n - (x : Int)).toNat := fun hp =>
        chk (by omega) ⟨⟨x + 1, by omega, by omega, rfl, fun b hb => by
          by_cases e : b = x
          · subst e; exact hp
          · exact hin b (by omega)⟩, by omega⟩
      refine rel_Rel_Has.c u ?_
      rw [hasM_nat]
      refine bc_i (fun h1 => ?_) (fun h1 => ?_)
      · refine rel_Rel_Has.c u ?_
        rw [hasM_nat]
        refine bc_i (fun h2 => no fun hp => hp.1 ⟨h1, h2⟩) (fun h2 => ?_)
        have hp : totP N t x := ⟨fun g => (by rw [h2] at g; cases g.2), .inr (.inl h1)⟩
        refine bcd (fun _ => ?_) (fun _ => go hp)
        refine rel_Rel_Has.c u ?_
        rw [hasM_nat, h1]
        exact bcF (go hp)
      · refine bcd (fun hne => ?_) (fun heq => go ⟨fun g => (by rw [h1] at g; cases g.1), .inl (by omega)⟩)
        refine rel_Rel_Has.c u ?_
        rw [hasM_nat, h1]
        refine bcT (rel_Rel_Has.c u ?_)
        rw [hasM_nat]
        refine bcn (fun h2 => no fun hp => ?_) (fun h2 => go ⟨fun g => (by rw [h1] at g; cases g.1), .inr (.inr h2)⟩)
        rcases hp.2 with e | e | e
        · omega
        · rw [h1] at e; cases e
        · rw [h2] at e; cases e
    · refine chk (by omega) ⟨⟨t + 1, by omega, by omega, rfl, fun a ha b hb => ?_⟩, by first | omega | (dsimp only; omega)⟩
      by_cases e : a = t
      · subst e; exact hin b (by omega)
      · exact hall a (by omega) b hb
  · have e : totB N n = true := (totB_of hT).2 fun a ha => hall a (by omega)
    rw [← e]; exact hK _ le1
theorem centoref2_Rel_IsTotal.c {m n : Nat} {M : Nat → Nat → Bool} {O : List Nat} {H : Hp} {K : Bool → Hp → Prop} (hu : RFO H m O n M) (hK : K (totB M n) H) : centoref2_Rel_IsTotal.C (some ⟨m, 0, none⟩) H K := by
  apply centoref2_Rel_IsTotal.of
  have hlim := hu.lim
  refine ⟨fun t Hx => ∃ t' : Nat, t = t' ∧ t' ≤ n ∧ H = Hx ∧ ∀ a, a < t' → ∀ b, b < a → M a b = true ∨ M b a = true, fun t _ => (n - t).toNat, ⟨0, rfl, by omega, rfl, fun a h => absurd h (Nat.not_lt_zero _)⟩, ?_⟩
  rintro t _ ⟨t, rfl, ht, rfl, hall⟩
  refine hu.len ?_
  refine bcd (fun h => ?_) (fun h => ?_)
  · have htn : t < n := by omega
    refine ⟨fun x Hx => ∃ x' : Nat, x = x' ∧ x' ≤ t ∧ H = Hx ∧ ∀ b, b < x' → M t b = true ∨ M b t = true, fun x _ => (t - x).toNat, ⟨0, rfl, by omega, rfl, fun a h => absurd h (Nat.not_lt_zero _)⟩, ?_⟩
    rintro x _ ⟨x, rfl, hx, rfl, hin⟩
    refine bcd (fun h => ?_) (fun h => ?_)
    · have hxt : x < t := by omega
      have go : (M t x = true ∨ M x t = true) → CHK .i64 ((x : Int) + 1) fun x' => (∃ k : Nat, x' = k ∧ k ≤ t ∧ H = H ∧ ∀ b, b < k → M t b = true ∨ M b t = true) ∧ (t - x').toNat < (t - (x : Int)).toNat := fun hp =>
        chk (by omega) ⟨⟨x + 1, by omega, by omega, rfl, fun b hb => by
          by_cases e : b = x
          · subst e; exact hp
          · exact hin b (by omega)⟩, by omega⟩
      refine hu.get rfl htn rfl (by omega) ?_
      refine bcn (fun h1 => ?_) (fun h1 => go (.inl h1))
      refine hu.get rfl (by omega) rfl htn ?_
      refine bcn (fun h2 => ?_) (fun h2 => go (.inr h2))
      have e : totB M n = false := by
        rw [← Bool.not_eq_true, totB_iff]
        rintro ⟨_, h'⟩
        rcases h' t htn x (by omega) with e | e | e
        · omega
        · rw [h1] at e; cases e
        · rw [h2] at e; cases e
      rwa [e] at hK
    · refine chk (by omega) ⟨⟨t + 1, by omega, by omega, rfl, fun a ha b hb => ?_⟩, by first | omega | (dsimp only; omega)⟩
      by_cases e : a = t
      · subst e; exact hin b (by omega)
      · exact hall a (by omega) b hb
  · refine centoref2_Rel_IsOrder.c hu ?_
    have e : totB M n = ordB M n := by
      rw [Bool.eq_iff_iff, totB_iff, ordB_iff]
      refine ⟨fun g => g.1, fun g => ⟨g, fun a ha b hb => ?_⟩⟩
      rcases Nat.lt_trichotomy a b with h1 | h1 | h1
      · exact .inr ((hall b (by omega) a h1).symm)
      · exact .inl h1
      · exact .inr (hall a (by omega) b h1)
    rwa [e] at hK
end Go.Proofs.YteijgmmjgbgffaaDoor
namespace Go.Proofs.YteijgmmjgbgffaaDoor
open Go.V
/-! ### The least pairs -/
def betw (M : Nat → Nat → Bool) (a b k : Nat) : Bool := (decide (a ≠ k) && M a k) && (decide (k ≠ b) && M k b)
def redB (M : Nat → Nat → Bool) (hs : List Nat) (a b : Nat) : Bool := (decide (a ≠ b) && M a b) && !hs.any (betw M a b)
def redRow (M : Nat → Nat → Bool) (hs : List Nat) (a : Nat) (bs : List Nat) : List (Int × Int) := (bs.filter (redB M hs a)).map fun (b : Nat) => ((a : Int), (b : Int))
def redTo (M : Nat → Nat → Bool) (hs : List Nat) (i k : Nat) : List (Int × Int) := ((hs.take i).flatMap fun a => redRow M hs a hs) ++ redRow M hs (hs.getD i 0) (hs.take k)
def red (M : Nat → Nat → Bool) (n : Nat) : List (Int × Int) := (hdsM M n).flatMap fun a => redRow M (hdsM M n) a (hdsM M n)
theorem redRow_len {M : Nat → Nat → Bool} {hs : List Nat} {a : Nat} {bs : List Nat} : (redRow M hs a bs).length ≤ bs.length := by unfold redRow; rw [List.length_map]; exact List.length_filter_le _ _
theorem flat_len {α : Type} {f : Nat → List α} {c : Nat} (hf : ∀ x, (f x).length ≤ c) : ∀ l : List Nat, (l.flatMap f).length ≤ l.length * c
  | [] => by simp
  | a :: l => by
    rw [List.flatMap_cons, List.length_append, List.length_cons, Nat.add_mul]
    have := flat_len hf l
    have := hf a
    omega
theorem redTo_len {M : Nat → Nat → Bool} {hs : List Nat} {i k : Nat} (hi : i ≤ hs.length) (hk : k ≤ hs.length) (hl : hs.length ≤ 200) : (redTo M hs i k).length ≤ 40200 := by
  unfold redTo
  rw [List.length_append]
  have h1 := flat_len (f := fun a => redRow M hs a hs) (c := hs.length) (fun x => redRow_len) (hs.take i)
  have h2 : (redRow M hs (hs.getD i 0) (hs.take k)).length ≤ (hs.take k).length := redRow_len
  have h3 : (hs.take i).length * hs.length ≤ 200 * 200 := Nat.mul_le_mul (by rw [List.length_take]; omega) hl
  rw [List.length_take] at h2
  omega
theorem redTo_step {M : Nat → Nat → Bool} {hs : List Nat} {i k : Nat} (hi : i < hs.length) (hk : k < hs.length) : redTo M hs i (k + 1) = redTo M hs i k ++ if redB M hs hs[i] hs[k] then [((hs[i] : Int), (hs[k] : Int))] else [] := by
  have e : hs.getD i 0 = hs[i] := by simp [List.getD, hi]
  unfold redTo redRow
  rw [e, List.take_succ_eq_append_getElem hk, List.filter_append, List.map_append, List.append_assoc]
  congr 2
  cases h : redB M hs hs[i] hs[k] with
  | true => simp [h]
  | false => simp [h]
theorem redTo_next {M : Nat → Nat → Bool} {hs : List Nat} {i k : Nat} (hi : i < hs.length) (hk : hs.length ≤ k) : redTo M hs i k = redTo M hs (i + 1) 0 := by
  have e : hs.getD i 0 = hs[i] := by simp [List.getD, hi]
  unfold redTo
  rw [e, List.take_of_length_le hk, List.take_succ_eq_append_getElem hi, List.flatMap_append]
  simp only [List.flatMap_cons, List.flatMap_nil, List.append_nil, redRow, List.take_zero, List.filter_nil, List.map_nil]
theorem redTo_zero {M : Nat → Nat → Bool} {hs : List Nat} : redTo M hs 0 0 = [] := by unfold redTo; simp [redRow]
theorem redTo_end {M : Nat → Nat → Bool} {hs : List Nat} : redTo M hs hs.length 0 = hs.flatMap fun a => redRow M hs a hs := by unfold redTo; simp [redRow]

end Go.Proofs.YteijgmmjgbgffaaDoor
namespace Go.Proofs.YteijgmmjgbgffaaDoor
open Go.V
theorem ofM_prs {M : Nat → Nat → Bool} {n : Nat} (h : Sup M n) : ofM (prs M n) n = M := by
  funext x y
  unfold ofM
  rw [Bool.eq_iff_iff, Bool.and_eq_true, List.any_eq_true, decide_eq_true_eq]
  constructor
  · rintro ⟨_, p, hp, he⟩
    obtain ⟨a, b, _, _, hm, rfl⟩ := prs_mem.1 hp
    simp only [decide_eq_true_eq] at he
    rw [← show a = x by omega, ← show b = y by omega]; exact hm
  · intro hm
    have := h.lt hm
    exact ⟨this, ((x : Int), (y : Int)), prs_mem.2 ⟨x, y, this.1, this.2, hm, rfl⟩, by simp⟩
theorem okP_prs {M : Nat → Nat → Bool} {n : Nat} : okP (prs M n) n = true := by
  unfold okP
  rw [List.all_eq_true]
  intro p hp
  obtain ⟨a, b, ha, hb, _, rfl⟩ := prs_mem.1 hp
  simp only [decide_eq_true_eq]
  omega

theorem centoref2_Some.c {n : Int} {lp : Option Addr} {ll lc : Nat} {l : List (Int × Int)} {H : Hp} {K : Option Addr → Hp → Prop} (hl : Sn 2 pairC H lp ll lc l) (hll : l.length ≤ 1000000000)
    (h3 : ∀ R O H', RFO H' R O (max 0 (min n 200)).toNat (ofM l (max 0 (min n 200)).toNat) → (∀ b ∈ O, H b = none) → Le H H' → K (some ⟨R, 0, none⟩) H') : centoref2_Some.C n lp ll lc H K := by
  apply centoref2_Some.of
  have hlen := hl.len
  refine centoref2_New.c fun R O H1 u1 hO le1 => ?_
  generalize hN : (max 0 (min n 200)).toNat = N at *
  refine ⟨fun t H' => ∃ i : Nat, t = i ∧ i ≤ ll ∧ Le H H' ∧ RFO H' R O N (ofM (l.take i) N), fun t _ => (ll - t).toNat, ⟨0, rfl, by omega, le1, u1.congr fun x y => by simp [ofM]⟩, ?_⟩
  rintro t H2 ⟨i, rfl, hi, le2, u2⟩
  refine bcd (fun h => ?_) (fun h => ?_)
  · have hil : i < l.length := by omega
    have hts := List.take_succ_eq_append_getElem hil
    have hadd := ofM_snoc (l := l.take i) (n := N) (p := l[i])
    rw [← hts] at hadd
    have skip : ¬ (0 ≤ l[i].1 ∧ l[i].1 < (N : Int) ∧ 0 ≤ l[i].2 ∧ l[i].2 < (N : Int)) → CHK .i64 ((i : Int) + 1) fun x55 => (∃ i' : Nat, x55 = i' ∧ i' ≤ ll ∧ Le H H2 ∧ RFO H2 R O N (ofM (l.take i') N)) ∧ (ll - x55).toNat < (ll - (i : Int)).toNat := fun hb =>
      chk (by omega) ⟨⟨i + 1, by omega, by omega, le2, by rw [hadd, addM_out hb]; exact u2⟩, by omega⟩
    refine snA (hl.le le2) (by omega) (by omega) fun _ => ?_
    simp only [Int.toNat_natCast]
    refine centoref2_Rel_Is.c u2 ?_
    refine bcd (fun ha => ?_) (fun ha => bcF (skip fun g => ha ⟨g.1, g.2.1⟩))
    refine snB (hl.le le2) (by omega) (by omega) fun _ => ?_
    simp only [Int.toNat_natCast]
    refine centoref2_Rel_Is.c u2 ?_
    unfold centoref2_Some.k1
    refine bcd (fun hb' => ?_) (fun hb' => skip fun g => hb' g.2.2)
    obtain ⟨x, hx⟩ : ∃ k : Nat, l[i].1 = k := ⟨l[i].1.toNat, by omega⟩
    obtain ⟨y, hy⟩ : ∃ k : Nat, l[i].2 = k := ⟨l[i].2.toNat, by omega⟩
    have hxn : x < N := by omega
    have hyn : y < N := by omega
    obtain ⟨B, bs, hOe, u2⟩ := u2
    obtain ⟨p, c, g1, _, g3⟩ := u2.hm
    obtain rfl := g3.resolve_left (by omega)
    refine nil ?_
    refine ldL_i (by rw [Nat.zero_add]; exact g1) ?_
    refine snA (hl.le le2) (by omega) (by omega) fun _ => ?_
    simp only [Int.toNat_natCast]
    refine idxN x hx hxn ?_
    refine nil ?_
    refine ldL_i (by rw [Nat.zero_add]; exact u2.ptr x (by rw [u2.lb]; exact hxn)) ?_
    refine snB (hl.le le2) (by omega) (by omega) fun _ => ?_
    simp only [Int.toNat_natCast]
    refine idxN y hy hyn ?_
    refine nil ?_
    refine st0 (u2.row x (by rw [u2.lb]; exact hxn) y hyn) ?_
    have hset := u2.set hxn hyn (v := true)
    rw [addSet hxn hyn, ← hx, ← hy, ← hadd] at hset
    have mw : Mod (R :: B :: bs) H2 (wr H2 (bs[x]'(by rw [u2.lb]; exact hxn)) y (.bool true)) := Mod.refl.wr (.inl (by simp))
    exact chk (by omega) ⟨⟨i + 1, by omega, by omega, mw.le le2 (by rw [← hOe]; exact hO), ⟨B, bs, hOe, hset⟩⟩, by first | omega | (dsimp only; omega)⟩
  · have e1 : l.take i = l := List.take_of_length_le (by omega)
    rw [e1] at u2
    exact h3 R O H2 u2 hO le2

/-- How many elements. -/
def cap40 (n : Int) : Nat := (max 0 (min n 40)).toNat
theorem srtS_len {M : Nat → Nat → Bool} {n : Nat} : ∀ k rem, (srtS M n k rem).length ≤ k * n
  | 0, _ => by simp [srtS]
  | k + 1, rem => by
    rw [srtS, Nat.add_mul, Nat.one_mul]
    split
    · simp
    · rename_i h _
      rw [List.length_append]
      have h1 := clsM_len (M := M) (n := n) (a := h)
      have h2 := srtS_len (M := M) (n := n) k (rem.erase h)
      omega
theorem srt_len {M : Nat → Nat → Bool} {n : Nat} (hn : n ≤ 200) : (srt M n).length ≤ 40000 := by
  have h1 := srtS_len (M := M) (n := n) (hdsM M n).length (hdsM M n)
  have h2 := hds_len (M := M) (n := n)
  have h3 : (hdsM M n).length * n ≤ 200 * 200 := Nat.mul_le_mul (by omega) hn
  unfold srt; omega
theorem red_len {M : Nat → Nat → Bool} {n : Nat} (hn : n ≤ 200) : (red M n).length ≤ 40200 := by
  have h2 := hds_len (M := M) (n := n)
  have := redTo_len (M := M) (hs := hdsM M n) (i := (hdsM M n).length) (k := 0) (Nat.le_refl _) (Nat.zero_le _) (by omega)
  rwa [redTo_end] at this
end Go.Proofs.YteijgmmjgbgffaaDoor
namespace Go.Proofs.YteijgmmjgbgffaaDoor
open Go.V
/-! ### strings.Builder -/
/-- Block b is a builder that holds l, in buffer p (room c, k bytes frozen); none of it was there in A. -/
structure Bd (A H : Hp) (b : Nat) (p : Option Addr) (cc k : Nat) (l : List UInt8) : Prop where
  fr : A b = none
  ap : b ∉ blkL p
  hd : ∃ pa : Option Addr, (pa = none ∨ pa = some ⟨b, 0, none⟩) ∧ H b = some ([.pointer pa, .slice p l.length cc] ++ [tyM ty_strings_Builder 0 0])
  bb : BB ty_uint8 A H p cc k l
section
variable {A A' H H' : Hp} {b : Nat} {p : Option Addr} {cc k : Nat} {l : List UInt8} {O : List Nat}
theorem Bd.new {A H : Hp} {b : Nat} (hA : A b = none) (hH : H b = some ([.pointer none, .slice none 0 0] ++ [tyM ty_strings_Builder 0 0])) : Bd A H b none 0 0 [] :=
  ⟨hA, by simp [blkL], ⟨none, .inl rfl, hH⟩, BB.none⟩
theorem Bd.there (h : Bd A H b p cc k l) : ∀ x ∈ b :: blkL p, H x ≠ none := by
  intro x hx
  rcases List.mem_cons.1 hx with rfl | hx
  · obtain ⟨pa, _, h1⟩ := h.hd; rw [h1]; intro e; cases e
  · exact h.bb.there x hx
theorem Bd.frs (h : Bd A H b p cc k l) : ∀ x ∈ b :: blkL p, A x = none := by
  intro x hx
  rcases List.mem_cons.1 hx with rfl | hx
  · exact h.fr
  · exact h.bb.fr x hx
theorem Bd.mod (h : Bd A H b p cc k l) (hm : Mod O H H') (hO : ∀ x ∈ b :: blkL p, x ∉ O) : Bd A H' b p cc k l := by
  obtain ⟨pa, h1, h2⟩ := h.hd
  exact ⟨h.fr, h.ap, ⟨pa, h1, hm b (hO b (by simp)) _ h2⟩, h.bb.mod hm fun x hx => hO x (by simp [hx])⟩
theorem Bd.le (h : Bd A H b p cc k l) (hm : Le H H') : Bd A H' b p cc k l := h.mod (O := []) hm.mod (by simp)
theorem Bd.base (h : Bd A H b p cc k l) (hA : ∀ x ∈ b :: blkL p, A' x = none) : Bd A' H b p cc k l :=
  ⟨hA b (by simp), h.ap, h.hd, h.bb.base fun x hx => hA x (by simp [hx])⟩
theorem Bd.r1 (h : Bd A H b p cc k l) : rd H b 1 = some (.slice p l.length cc) := by
  obtain ⟨pa, _, h2⟩ := h.hd
  unfold rd; rw [h2]; rfl
end

theorem internal_abi_NoEscape.c {x : Option Addr} {H : Hp} {K : Option Addr → Hp → Prop} (hK : K x H) : internal_abi_NoEscape.C x H K :=
  callX (fn := (prog.funcs[internal_abi_NoEscape.num]?).getD default) (e := Extern.AbiNoEscape.same) (by kernel_rfl) (by kernel_rfl) (by kernel_rfl) (by kernel_rfl) (by kernel_rfl) fun w hw => ⟨.pointer x, w, rfl, by subst hw; exact hK, Ge.refl _ _⟩

section
variable {A H : Hp} {b : Nat} {p : Option Addr} {cc k : Nat} {l : List UInt8}
theorem strings_Builder_copyCheck.c {K : Hp → Prop} (hB : Bd A H b p cc k l) (hK : ∀ H', Bd A H' b p cc k l → Mod [b] H H' → K H') : strings_Builder_copyCheck.C (some ⟨b, 0, none⟩) H K := by
  apply strings_Builder_copyCheck.of
  obtain ⟨pa, hpa, hH⟩ := hB.hd
  have r0 : rd H b 0 = some (.pointer pa) := by unfold rd; rw [hH]; rfl
  refine nil (ldP_i r0 ?_)
  rcases hpa with rfl | rfl
  · refine bcd (fun _ => ?_) (fun h => absurd rfl h)
    refine cnv_to (t := ty_strings_Builder) (s := 1) (by kernel_rfl) (by kernel_rfl) (by kernel_rfl) r0 ?_
    refine internal_abi_NoEscape.c ?_
    refine cnv_from (u := ty_strings_Builder) (s := 2) (X := [.pointer none, .slice p l.length cc]) (by kernel_rfl) (by kernel_rfl) (by kernel_rfl) hH (show liesAt prog prog.depth ty_strings_Builder (2 / prog.cellsOf ty_strings_Builder) 0 ty_strings_Builder 1 = true by kernel_rfl) ?_
    refine nil (st r0 (hK _ ⟨hB.fr, hB.ap, ⟨some ⟨b, 0, none⟩, .inr rfl, ?_⟩, hB.bb.mod (O := [b]) (Mod.refl.wr (.inl (by simp))) fun x hx hx' => ?_⟩ (Mod.refl.wr (.inl (by simp)))))
    · unfold wr; rw [if_pos rfl, hH]; rfl
    · simp at hx'; subst hx'; exact hB.ap hx
  · refine bcd (fun h => by cases h) (fun _ => ?_)
    refine nil (ldP_i r0 ?_)
    refine peq_ne (te := ty_strings_Builder) (s := 2) (by kernel_rfl) (by kernel_rfl) ?_
    exact bcF (hK H hB Mod.refl)

/-- The buffer's head is laid anew. -/
theorem Bd.put {p' : Option Addr} {c' k' : Nat} {l' : List UInt8} {H1 : Hp} (hB : Bd A H b p cc k l) (hb : H1 b = H b) (hBB : BB ty_uint8 A H1 p' c' k' l') (hap : b ∉ blkL p') : Bd A (wr H1 b 1 (.slice p' l'.length c')) b p' c' k' l' := by
  obtain ⟨pa, h1, h2⟩ := hB.hd
  refine ⟨hB.fr, hap, ⟨pa, h1, ?_⟩, hBB.mod (O := [b]) (Mod.refl.wr (.inl (by simp))) fun x hx hx' => ?_⟩
  · unfold wr; rw [if_pos rfl, hb, h2]; rfl
  · simp at hx'; subst hx'; exact hap hx
theorem strings_Builder_WriteString.c {s : ByteArray} {K : Int → Value → Hp → Prop} (hB : Bd A H b p cc k l) (hA : Le A H) (hk : k = 0 ∨ l.length + s.size ≤ cc) (hfit : l.length + s.size ≤ 140737488355328)
    (hK : ∀ p' c' k' H', Bd A H' b p' c' k' (l ++ s.data.toList) → Le A H' → Mod (b :: blkL p) H H' → (p' = p ∨ New H p') → (k' = k ∧ p' = p ∧ c' = cc ∨ k' = 0 ∧ cc < l.length + s.size) → K (s.size : Nat) .nilIface H') : strings_Builder_WriteString.C (some ⟨b, 0, none⟩) s H K := by
  have hsz : s.data.toList.length = s.size := by cases s; rfl
  apply strings_Builder_WriteString.of
  refine strings_Builder_copyCheck.c hB fun H1 hB1 m1 => ?_
  have hA1 : Le A H1 := m1.le hA (by simpa using hB.fr)
  refine nil (ldL_i hB1.r1 ?_)
  refine hB1.bb.app (new := s.data.toList) hA1 rfl rfl rfl rfl (src_str s) (by rw [hsz]; exact hk) (by rw [hsz]; exact hfit) fun p' c' k' H2 hBB hA2 m2 hp hch => ?_
  have hbq : b ∉ blkL p := hB.ap
  have hb2 : H2 b = H1 b := by
    obtain ⟨pa, _, h2⟩ := hB1.hd
    rw [h2]; exact m2 b hbq _ h2
  have hap : b ∉ blkL p' := by
    rcases hp with rfl | hp
    · exact hbq
    · rcases hBB.2.2 with ⟨rfl, _⟩ | ⟨q, _, rfl, _⟩
      · simp [blkL]
      · intro h
        simp [blkL] at h
        exact hB1.there b (by simp) (by have := hp q 0 rfl; rw [← h] at this; exact this)
  have hB2 := hB1.put hb2 hBB hap
  have r : rd H2 b 1 = some (.slice p l.length cc) := by rw [rd_eq hb2]; exact hB1.r1
  refine nil (st r ?_)
  rw [show l.length + s.data.toList.length = (l ++ s.data.toList).length by simp]
  refine hK p' c' k' _ hB2 (hA2.wr hB.fr) ((m1.mono (by simp)).trans ((m2.mono (by simp; intro x hx; exact .inr hx)).wr (.inl (by simp)))) ?_ (by rw [hsz] at hch; exact hch)
  rcases hp with hp | hp
  · exact .inl hp
  · refine .inr fun b' o e => ?_
    have := hp b' o e
    cases hh : H b' with
    | none => rfl
    | some d =>
      by_cases hbb : b' = b
      · subst hbb; exact absurd this (hB1.there b' (by simp))
      · rw [m1 b' (by simpa using hbb) _ hh] at this; cases this
theorem strings_Builder_WriteByte.c {x : UInt8} {K : Value → Hp → Prop} (hB : Bd A H b p cc 0 l) (hA : Le A H) (hfit : l.length + 1 ≤ 140737488355328)
    (hK : ∀ p' c' H', Bd A H' b p' c' 0 (l ++ [x]) → Le A H' → Mod (b :: blkL p) H H' → (p' = p ∨ New H p') → K .nilIface H') : strings_Builder_WriteByte.C (some ⟨b, 0, none⟩) (x.toNat : Nat) H K := by
  apply strings_Builder_WriteByte.of
  refine strings_Builder_copyCheck.c hB fun H1 hB1 m1 => ?_
  have hA1 : Le A H1 := m1.le hA (by simpa using hB.fr)
  refine nil (ldL_i hB1.r1 ?_)
  intro bx hbx
  have hB1' := hB1.le (Le.upd (c := [.int .u8 (x.toNat : Nat)] ++ [tyM ty_uint8 0 0]) hbx)
  refine hB1'.bb.app (new := [x]) (hA1.trans (Le.upd hbx)) rfl rfl rfl rfl (src_one) (.inl rfl) hfit fun p' c' k' H2 hBB hA2 m2 hp hch => ?_
  have hk' : k' = 0 := by rcases hch with ⟨h, _⟩ | ⟨h, _⟩ <;> exact h
  subst hk'
  have hbq : b ∉ blkL p := hB.ap
  have hb2 : H2 b = (upd H1 bx ([.int .u8 (x.toNat : Nat)] ++ [tyM ty_uint8 0 0])) b := by
    obtain ⟨pa, _, h2⟩ := hB1'.hd
    rw [h2]; exact m2 b hbq _ h2
  have hap : b ∉ blkL p' := by
    rcases hp with rfl | hp
    · exact hbq
    · rcases hBB.2.2 with ⟨rfl, _⟩ | ⟨q, _, rfl, _⟩
      · simp [blkL]
      · intro h
        simp [blkL] at h
        exact hB1'.there b (by simp) (by have := hp q 0 rfl; rw [← h] at this; exact this)
  have hB2 := hB1'.put hb2 hBB hap
  have r : rd H2 b 1 = some (.slice p l.length cc) := by rw [rd_eq hb2]; exact hB1'.r1
  refine nil (st r ?_)
  rw [show l.length + [x].length = (l ++ [x]).length by simp]
  refine hK p' c' _ hB2 (hA2.wr hB.fr) (((m1.mono (by simp)).trans (Le.upd hbx).mod).trans ((m2.mono (by simp; intro x hx; exact .inr hx)).wr (.inl (by simp)))) ?_
  rcases hp with hp | hp
  · exact .inl hp
  · refine .inr fun b' o e => ?_
    have := none_of_le (Le.upd hbx) (hp b' o e)
    cases hh : H b' with
    | none => rfl
    | some d =>
      by_cases hbb : b' = b
      · subst hbb; exact absurd this (hB1.there b' (by simp))
      · rw [m1 b' (by simpa using hbb) _ hh] at this; cases this

theorem strings_Builder_String.c {K : ByteArray → Hp → Prop} (hB : Bd A H b p cc k l) (hA : Le A H) (hlen : l.length ≤ 9223372036854775807)
    (hK : ∀ H', Bd A H' b p cc l.length l → Le A H' → Mod (blkL p) H H' → K ⟨⟨l⟩⟩ H') : strings_Builder_String.C (some ⟨b, 0, none⟩) H K := by
  apply strings_Builder_String.of
  refine nil (ldL_i hB.r1 (nil (ldL_i hB.r1 ?_)))
  refine blt_data (fun a ha => ?_) ?_
  · rcases hB.bb.2.2 with ⟨h, _⟩ | ⟨q, r, _, _, h, _⟩
    · rw [h] at ha; cases ha
    · omega
  refine ⟨by rw [hB.r1], ?_⟩
  refine blt_str (e := ty_uint8) (by kernel_rfl) (by kernel_rfl) (by kernel_rfl) hB.bb hlen fun H' hBB hm => ?_
  obtain ⟨pa, h1, h2⟩ := hB.hd
  exact hK H' ⟨hB.fr, hB.ap, ⟨pa, h1, hm b hB.ap _ h2⟩, hBB⟩ (hm.le hA hB.bb.fr) hm
end

section
variable {A H : Hp} {b : Nat}
end
end Go.Proofs.YteijgmmjgbgffaaDoor
namespace Go.Proofs.YteijgmmjgbgffaaDoor
open Go.V
/-! ### Texts -/
abbrev BL := List UInt8
def L (s : ByteArray) : BL := s.data.toList
def mkB (l : BL) : ByteArray := ⟨⟨l⟩⟩
@[simp] theorem L_mk (l : BL) : L (mkB l) = l := rfl
@[simp] theorem mk_L (s : ByteArray) : mkB (L s) = s := rfl
theorem L_inj {a b : ByteArray} (h : L a = L b) : a = b := by rw [← mk_L a, ← mk_L b, h]
theorem L_size (s : ByteArray) : s.size = (L s).length := by cases s; rfl
@[simp] theorem L_bs (l : BL) : L (bs l) = l := rfl
theorem bs_mk (l : BL) : bs l = mkB l := rfl
theorem L_append (a b : ByteArray) : L (a ++ b) = L a ++ L b := by simp [L]
theorem L_extract (s : ByteArray) (j k : Nat) : L (s.extract j k) = ((L s).take k).drop j := by
  simp only [L]
  rw [ByteArray.data_extract]
  simp [List.drop_take]
theorem mkB_size (l : BL) : (mkB l).size = l.length := by rw [L_size]; rfl
theorem ext_take (l : BL) (j : Nat) : (mkB l).extract 0 j = mkB (l.take j) := L_inj (by rw [L_extract]; simp)
theorem ext_drop (l : BL) (j : Nat) : (mkB l).extract j (mkB l).size = mkB (l.drop j) := L_inj (by rw [L_extract, L_size]; simp)
theorem eq_iff_L {a b : ByteArray} : a = b ↔ L a = L b := ⟨fun h => h ▸ rfl, L_inj⟩

/-- A text's lines, a line's beginning in hand. -/
def linesA : BL → BL → List BL
  | acc, [] => if acc = [] then [] else [acc]
  | acc, b :: r => if b = 10 then (acc ++ [b]) :: linesA [] r else linesA (acc ++ [b]) r
def lines (s : BL) : List BL := linesA [] s
theorem linesA_app (acc l r : BL) (h : 10 ∉ l) : linesA acc (l ++ r) = linesA (acc ++ l) r := by
  induction l generalizing acc with
  | nil => simp
  | cons b l ih =>
    simp only [List.mem_cons, not_or] at h
    rw [List.cons_append, linesA, if_neg (fun e => h.1 e.symm), ih _ h.2]
    simp
theorem linesA_line (acc l r : BL) (h : 10 ∉ l) : linesA acc (l ++ 10 :: r) = (acc ++ l ++ [10]) :: lines r := by
  rw [linesA_app _ _ _ h, linesA, if_pos rfl]; rfl
theorem linesA_last (acc l : BL) (h : 10 ∉ l) : linesA acc l = if acc ++ l = [] then [] else [acc ++ l] := by
  have := linesA_app acc l [] h
  rw [List.append_nil] at this
  rw [this, linesA]

theorem indexByte_spec (l : BL) (x : UInt8) : (Lib.indexByte l x = -1 ∧ x ∉ l) ∨ ∃ i : Nat, Lib.indexByte l x = (i : Int) ∧ i < l.length ∧ x ∉ l.take i ∧ l = l.take i ++ x :: l.drop (i + 1) := by
  induction l with
  | nil => left; exact ⟨rfl, by simp⟩
  | cons b l ih =>
    unfold Lib.indexByte
    by_cases hb : b = x
    · subst hb
      right
      exact ⟨0, by simp, by simp, by simp, by simp⟩
    · have hb' : (b == x) = false := by simpa using hb
      rw [if_neg (by rw [hb']; simp)]
      rcases ih with ⟨h1, h2⟩ | ⟨i, h1, h2, h3, h4⟩
      · left
        rw [h1]
        exact ⟨by simp, by simp [h2, Ne.symm hb]⟩
      · right
        refine ⟨i + 1, ?_, by simp; omega, ?_, ?_⟩
        · rw [h1, if_neg (by simp)]; omega
        · simp [h3, Ne.symm hb]
        · simp only [List.take_succ_cons, List.cons_append, List.drop_succ_cons, ← h4]

theorem lines_cut {rest : BL} {i : Nat} (hn : 10 ∉ rest.take i) (hd : rest = rest.take i ++ 10 :: rest.drop (i + 1)) : lines rest = (rest.take i ++ [10]) :: lines (rest.drop (i + 1)) :=
  (congrArg lines hd).trans (linesA_line [] _ _ hn)
theorem take_cut {rest : BL} {i : Nat} (hi : i < rest.length) (hd : rest = rest.take i ++ 10 :: rest.drop (i + 1)) : rest.take (i + 1) = rest.take i ++ [10] := by
  have hx : (rest.take i ++ 10 :: rest.drop (i + 1))[i]? = some 10 := by
    rw [List.getElem?_append_right (by simp; omega)]
    simp [show min i rest.length = i by omega]
  rw [← hd] at hx
  rw [List.take_add_one, hx]; rfl

/-! ### Package strings -/
end Go.Proofs.YteijgmmjgbgffaaDoor
namespace Go.Proofs.YteijgmmjgbgffaaDoor
open Go.V
/-! ### Lines -/
theorem linesA_len (acc l : BL) : (linesA acc l).length ≤ l.length + (if acc = [] then 0 else 1) := by
  induction l generalizing acc with
  | nil => unfold linesA; split <;> simp
  | cons b l ih =>
    unfold linesA
    split
    · have := ih []
      simp at this ⊢
      omega
    · have := ih (acc ++ [b])
      simp at this ⊢
      omega
theorem lines_len (l : BL) : (lines l).length ≤ l.length := by have := linesA_len [] l; simpa [lines] using this
def sv (l : BL) : Value := .string (mkB l)

theorem sl_map {α β : Type} {f : α → Value} {g : β → α} {H : Hp} {p : Option Addr} {l c' : Nat} {xs : List β} : Sl f H p l c' (xs.map g) ↔ Sl (fun x => f (g x)) H p l c' xs := by
  unfold Sl
  simp
end Go.Proofs.YteijgmmjgbgffaaDoor
namespace Go.Proofs.YteijgmmjgbgffaaDoor
open Go.V
/-! ### Join -/
theorem sv_size (x : BL) : (mkB x).size = x.length := rfl
theorem flat_take {xs : List BL} {i : Nat} (h : i < xs.length) : (xs.take (i + 1)).flatten = (xs.take i).flatten ++ xs[i] := by
  rw [List.take_add_one, List.getElem?_eq_getElem h, List.flatten_append]
  simp only [Option.toList, List.flatten_cons, List.flatten_nil, List.append_nil]
theorem flat_one {xs : List BL} (h : 0 < xs.length) : (xs.take 1).flatten = xs[0] := by rw [flat_take (i := 0) h]; rfl
theorem flat_le {xs : List BL} (i : Nat) : (xs.take i).flatten.length ≤ xs.flatten.length := by
  conv => rhs; rw [← List.take_append_drop i xs, List.flatten_append, List.length_append]
  omega
theorem mkB_nil : mkB [] = bs [] := rfl
/-- A slice of texts: one of them. -/
theorem slT {H : Hp} {p : Option Addr} {l c' : Nat} {xs : List BL} (h : Sl sv H p l c' xs) {i : Int} {F : ByteArray → Prop} (h0 : 0 ≤ i) (hi : i < l) (hF : (hi : i.toNat < xs.length) → F (mkB xs[i.toNat])) : IDX i l fun j => NIL p fun b o => ldS (rd H b (o + j)) F :=
  sl_nil h h0 hi fun _ _ hi e => ⟨_, e, hF hi⟩
/-! ### Is -/
/-- Are lines a text's? -/
def isL : List BL → Bool
  | [] => true
  | l :: r => decide (l ≠ [] ∧ 10 ∉ l.dropLast ∧ (r = [] ∨ l.getLast? = some 10)) && isL r
theorem isL_lines (acc l : BL) (h : 10 ∉ acc) : isL (linesA acc l) = true := by
  induction l generalizing acc with
  | nil =>
    unfold linesA
    split
    · rfl
    · rename_i h1
      simp only [isL, Bool.and_true, decide_eq_true_eq, true_or, and_true]
      exact ⟨h1, fun h2 => h (List.dropLast_subset _ h2)⟩
  | cons b l ih =>
    unfold linesA
    split
    · rename_i hb
      subst hb
      simp only [isL, ih [] (by simp), Bool.and_true, decide_eq_true_eq]
      exact ⟨by simp, by simpa using h, .inr (by simp)⟩
    · rename_i hb
      exact ih _ (by simp [h, Ne.symm hb])
theorem lines_of_is : ∀ (xs : List BL), isL xs = true → lines xs.flatten = xs
  | [], _ => rfl
  | l :: r, h => by
    simp only [isL, Bool.and_eq_true, decide_eq_true_eq] at h
    obtain ⟨⟨h1, h2, h3⟩, h4⟩ := h
    have ih := lines_of_is r h4
    by_cases hl : l.getLast? = some 10
    · obtain ⟨m, rfl⟩ := List.getLast?_eq_some_iff.1 hl
      rw [List.dropLast_concat] at h2
      rw [List.flatten_cons, List.append_assoc, List.singleton_append, lines, linesA_line _ _ _ h2, ih]
      simp
    · rcases h3 with h3 | h3
      · subst h3
        have h5 : 10 ∉ l := fun h5 => by
          rw [← List.dropLast_concat_getLast h1] at h5
          rcases List.mem_append.1 h5 with h5 | h5
          · exact h2 h5
          · simp at h5
            exact hl (by rw [List.getLast?_eq_some_getLast h1, h5])
        simp [lines, linesA_last _ _ h5, h1]
      · exact absurd h3 hl
theorem flat_lines (acc l : BL) : (linesA acc l).flatten = acc ++ l := by
  induction l generalizing acc with
  | nil => unfold linesA; split <;> simp_all
  | cons b l ih =>
    unfold linesA
    split
    · rw [List.flatten_cons, ih]; simp
    · rw [ih]; simp
theorem is_iff (xs : List BL) : isL xs = decide (lines xs.flatten = xs) := by
  by_cases h : lines xs.flatten = xs
  · rw [decide_eq_true h, ← h]
    exact isL_lines [] _ (by simp)
  · rw [decide_eq_false h]
    cases hh : isL xs with
    | false => rfl
    | true => exact absurd (lines_of_is xs hh) h
/-- One of the lines, as a program asks it. -/
def okL (l : BL) (last : Bool) : Bool := !(decide (l = []) || (decide (0 ≤ Lib.indexByte l 10) && decide (Lib.indexByte l 10 < (l.length : Int) - 1)) || (decide (Lib.indexByte l 10 < 0) && !last))
theorem okL_eq (l : BL) (last : Bool) : okL l last = decide (l ≠ [] ∧ 10 ∉ l.dropLast ∧ (last = true ∨ l.getLast? = some 10)) := by
  by_cases h0 : l = []
  · subst h0; simp [okL]
  · have hpos : 0 < l.length := List.length_pos_iff.2 h0
    unfold okL
    rcases indexByte_spec l 10 with ⟨e, hn⟩ | ⟨i, e, hi, hn, hd⟩
    · have h1 : 10 ∉ l.dropLast := fun h => hn (List.dropLast_subset _ h)
      have h2 : l.getLast? ≠ some 10 := fun h => hn (List.mem_of_getLast? h)
      rw [e]
      cases last <;> simp [h0, h1, h2]
    · rw [e]
      by_cases hil : i = l.length - 1
      · have e1 : l.take i ++ [10] = l := by rw [← take_cut hi hd, List.take_of_length_le (by omega)]
        have h1 : 10 ∉ l.dropLast := by rw [← e1, List.dropLast_concat]; exact hn
        have h2 : l.getLast? = some 10 := by rw [← e1]; simp
        have h3 : ¬ ((i : Int) < (l.length : Int) - 1) := by omega
        simp [h0, h1, h2, h3]
      · have h1 : 10 ∈ l.dropLast := by
          have : l[i]? = some 10 := by
            have := take_cut hi hd
            have h5 : (l.take (i + 1))[i]? = some 10 := by rw [this, List.getElem?_append_right (by simp; omega)]; simp [show min i l.length = i by omega]
            rwa [List.getElem?_take_of_lt (by omega)] at h5
          have h6 : l.dropLast[i]? = some 10 := by rw [List.getElem?_dropLast, if_pos (by omega)]; exact this
          exact List.mem_of_getElem? h6
        have h3 : (i : Int) < (l.length : Int) - 1 := by omega
        simp [h0, h1, h3]
theorem isL_drop {xs : List BL} {i : Nat} (h : i < xs.length) : isL (xs.drop i) = (okL xs[i] (decide (i + 1 = xs.length)) && isL (xs.drop (i + 1))) := by
  rw [List.drop_eq_getElem_cons h, isL, okL_eq]
  congr 1
  apply decide_eq_decide.2
  rw [decide_eq_true_eq]
  have : xs.drop (i + 1) = [] ↔ i + 1 = xs.length := by rw [List.drop_eq_nil_iff]; omega
  rw [this]
end Go.Proofs.YteijgmmjgbgffaaDoor
namespace Go.Proofs.YteijgmmjgbgffaaDoor
open Go.V
/-! ### Objects: the parts -/
def labOk (ls : List BL) : Bool := ls.all fun x => decide (x.length ≤ 60)
def labE (ls : List BL) : Int := if 40 < ls.length then 11 else if labOk ls then 0 else 10
theorem slices_IndexFunc_string_string.c {f : Value} {g : BL → Bool} {p : Option Addr} {l c : Nat} {xs : List BL} {H : Hp} {K : Int → Hp → Prop} (h : Sl sv H p l c xs) (hl : l ≤ 1000000000)
    (hf : ∀ x H' (K' : Bool → Hp → Prop), K' (g x) H' → CallV prog f [.string (mkB x)] H' fun v H'' => liftB v fun r => K' r H'')
    (hno : xs.any g = false → K (-1) H) (hyes : ∀ i : Nat, xs.any g = true → K (i : Int) H) : slices_IndexFunc_string_string.C p l c f H K := by
  apply slices_IndexFunc_string_string.of
  have hlen := h.len
  refine ⟨fun t Hx => ∃ i : Nat, t = (i : Nat) ∧ i ≤ l ∧ Hx = H ∧ (xs.take i).any g = false, fun t _ => ((l : Int) - t).toNat, ⟨0, rfl, Nat.zero_le _, rfl, rfl⟩, ?_⟩
  rintro t Hx ⟨i, rfl, gi, rfl, hi⟩
  refine bcd (fun hlt => ?_) (fun hlt => ?_)
  · have hil : i < xs.length := by omega
    refine slS h (fun _ => rfl) (by omega) hlt fun _ => ?_
    simp only [Int.toNat_natCast]
    refine hf xs[i] Hx (fun r H'' => bc r (K (i : Nat) H'') _) (bc_i (fun hg => ?_) fun hg => ?_)
    · exact hyes i (List.any_eq_true.2 ⟨_, List.getElem_mem hil, hg⟩)
    · refine chk (by omega) ⟨⟨i + 1, by omega, by omega, rfl, ?_⟩, by first | omega | (dsimp only; omega)⟩
      rw [List.take_succ_eq_append_getElem hil, List.any_append, hi]
      simp [hg]
  · refine hno ?_
    rw [List.take_of_length_le (by omega)] at hi
    exact hi
theorem slices_ContainsFunc_string_string.c {f : Value} {g : BL → Bool} {p : Option Addr} {l c : Nat} {xs : List BL} {H : Hp} {K : Bool → Hp → Prop} (h : Sl sv H p l c xs) (hl : l ≤ 1000000000)
    (hf : ∀ x H' (K' : Bool → Hp → Prop), K' (g x) H' → CallV prog f [.string (mkB x)] H' fun v H'' => liftB v fun r => K' r H'')
    (hK : K (xs.any g) H) : slices_ContainsFunc_string_string.C p l c f H K := by
  apply slices_ContainsFunc_string_string.of
  refine slices_IndexFunc_string_string.c h hl hf (fun e => ?_) (fun i e => ?_)
  · rw [e] at hK; exact hK
  · rw [e] at hK
    rw [decide_eq_true (show (0 : Int) ≤ (i : Nat) by omega)]
    exact hK
theorem obj_labels.c {p : Option Addr} {l c : Nat} {ls : List BL} {H : Hp} {K : Int → Hp → Prop} (h : Sl sv H p l c ls) (hK : K (labE ls) H) : obj_labels.C p l c H K := by
  apply obj_labels.of
  have hlen := h.len
  unfold labE at hK
  refine bcd (fun h1 => ?_) (fun h1 => ?_)
  · rw [if_pos (by omega)] at hK; exact hK
  · rw [if_neg (by omega)] at hK
    refine slices_ContainsFunc_string_string.c (g := fun x => decide ((60 : Int) < (x.length : Nat))) h (by omega) (fun x H' K' h => obj_labels_1.of _ (by rw [← sv_size x] at h; exact h)) ?_
    have e : labOk ls = !(ls.any fun x => decide ((60 : Int) < (x.length : Nat))) := by
      unfold labOk
      rw [List.not_any_eq_all_not]
      congr 1
      funext x
      rw [← decide_not]
      exact decide_eq_decide.2 (by omega)
    rw [e] at hK
    refine bc_i (fun h => ?_) fun h => ?_
    · rw [h] at hK; simpa using hK
    · rw [h] at hK; simpa using hK

def cmpI (x y : Int) : Int := if x < y then -1 else if y < x then 1 else 0
def cmpP (p q : Int × Int) : Int := if cmpI p.1 q.1 ≠ 0 then cmpI p.1 q.1 else cmpI p.2 q.2
def lexL (p q : Int × Int) : Bool := decide (p.1 < q.1 ∨ p.1 = q.1 ∧ p.2 < q.2)
theorem cmpP_lex {p q : Int × Int} : (0 ≤ cmpP p q) ↔ lexL p q = false := by
  unfold cmpP cmpI lexL
  rw [decide_eq_false_iff_not]
  split
  · split <;> (try split) <;> omega
  · split at * <;> (try split at *) <;> (try split) <;> omega
theorem cmpI_in (x y : Int) : -1 ≤ cmpI x y ∧ cmpI x y ≤ 1 := by unfold cmpI; split <;> (try split) <;> omega
theorem cmp_Compare_int.c {x y : Int} {H : Hp} {K : Int → Hp → Prop} (hK : K (cmpI x y) H) : cmp_Compare_int.C x y H K := by
  apply cmp_Compare_int.of
  refine cmp_isNaN_int.of _ ?_
  refine cmp_isNaN_int.of _ ?_
  unfold cmpI at hK
  refine bcd (fun h => absurd rfl h) fun _ => bcd (fun h => absurd rfl h) fun _ => bcd (fun h => ?_) fun h => bcd (fun h' => ?_) fun h' => ?_
  · rw [if_pos h] at hK; exact hK
  · rw [if_neg h, if_pos h'] at hK; exact hK
  · rw [if_neg h, if_neg h'] at hK; exact hK
theorem cmp_Or_int.two {b : Nat} {x y : Int} {H : Hp} {K : Int → Hp → Prop} (h0 : rd H b 0 = some (.int .i64 x)) (h1 : rd H b 1 = some (.int .i64 y)) (hK : K (if x ≠ 0 then x else y) H) : cmp_Or_int.C (some ⟨b, 0, none⟩) 2 2 H K := by
  apply cmp_Or_int.of
  refine ⟨fun t Hx => ∃ i : Nat, t = (i : Nat) ∧ i ≤ 2 ∧ Hx = H ∧ (1 ≤ i → x = 0) ∧ (2 ≤ i → y = 0), fun t _ => (2 - t).toNat, ⟨0, rfl, by omega, rfl, fun h => by omega, fun h => by omega⟩, ?_⟩
  rintro t Hx ⟨i, rfl, gi, rfl, e1, e2⟩
  refine bcd (fun h => ?_) (fun h => ?_)
  · have : i = 0 ∨ i = 1 := by omega
    rcases this with rfl | rfl
    · refine idxN 0 rfl (by decide) (nil (ldI_i h0 (bcd (fun hx => ?_) fun hx => ?_)))
      · rw [if_pos hx] at hK; exact hK
      · exact chk (by omega) ⟨⟨1, by omega, by omega, rfl, fun _ => Classical.not_not.1 hx, fun h => by omega⟩, by first | omega | (dsimp only; omega)⟩
    · have hx := e1 (by omega)
      rw [if_neg (by omega)] at hK
      refine idxN 1 rfl (by decide) (nil (ldI_i h1 (bcd (fun hy => ?_) fun hy => ?_)))
      · exact hK
      · exact chk (by omega) ⟨⟨2, by omega, by omega, rfl, fun _ => hx, fun _ => Classical.not_not.1 hy⟩, by first | omega | (dsimp only; omega)⟩
  · have hi2 : i = 2 := by omega
    rw [if_neg (by have := e1 (by omega); omega), e2 (by omega)] at hK
    exact hK
theorem obj_compare.c {p q : Int × Int} {H : Hp} {K : Int → Hp → Prop} (hK : ∀ H', Le H H' → K (cmpP p q) H') : obj_compare.C p.1 p.2 q.1 q.2 H K := by
  apply obj_compare.of
  intro b5 hb5
  have a0 : rd (upd H b5 [.int .i64 p.1, .int .i64 p.2]) b5 0 = some (.int .i64 p.1) := by rw [rd_upd_self]; rfl
  have a1 : rd (upd H b5 [.int .i64 p.1, .int .i64 p.2]) b5 1 = some (.int .i64 p.2) := by rw [rd_upd_self]; rfl
  have le1 : Le H (upd H b5 [.int .i64 p.1, .int .i64 p.2]) := Le.upd hb5
  generalize upd H b5 [.int .i64 p.1, .int .i64 p.2] = H1 at *
  intro b7 hb7
  have c0 : rd (upd H1 b7 [.int .i64 q.1, .int .i64 q.2]) b7 0 = some (.int .i64 q.1) := by rw [rd_upd_self]; rfl
  have c1 : rd (upd H1 b7 [.int .i64 q.1, .int .i64 q.2]) b7 1 = some (.int .i64 q.2) := by rw [rd_upd_self]; rfl
  have le2 : Le H1 (upd H1 b7 [.int .i64 q.1, .int .i64 q.2]) := Le.upd hb7
  generalize upd H1 b7 [.int .i64 q.1, .int .i64 q.2] = H2 at *
  refine ldI_i (le2.rd a0) (ldI_i c0 (ldI_i (le2.rd a1) (ldI_i c1 (cmp_Compare_int.c ⟨c1, le2.rd a1, cmp_Compare_int.c ?_⟩))))
  intro b21 hb21
  refine cmp_Or_int.two (x := cmpI p.1 q.1) (y := cmpI p.2 q.2) (by rw [rd_upd_self]; rfl) (by rw [rd_upd_self]; rfl) ?_
  exact hK _ ((le1.trans le2).trans (Le.upd hb21))

theorem slices_Equal_string_string.c {ap bp : Option Addr} {al ac bl bc' : Nat} {a b : List BL} {H : Hp} {K : Bool → Hp → Prop} (ha : Sl sv H ap al ac a) (hb : Sl sv H bp bl bc' b) (hl : al ≤ 1000000000) (hK : K (decide (a = b)) H) : slices_Equal_string_string.C ap al ac bp bl bc' H K := by
  apply slices_Equal_string_string.of
  have la := ha.len
  have lb := hb.len
  have no : ¬ a = b → K false H := fun h => by rwa [decide_eq_false h] at hK
  refine bcd (fun h => no fun e => h (by rw [la, lb, e])) (fun h => ?_)
  refine ⟨fun i Hx => ∃ i' : Nat, i = i' ∧ i' ≤ al ∧ H = Hx ∧ a.take i' = b.take i', fun i _ => (al - i).toNat, ⟨0, rfl, by omega, rfl, rfl⟩, ?_⟩
  rintro i _ ⟨i, rfl, hi, rfl, he⟩
  refine bcd (fun h => ?_) (fun h => ?_)
  · have hia : i < a.length := by omega
    have hib : i < b.length := by omega
    refine slS ha (fun _ => rfl) (by omega) (by omega) fun _ => slS hb (fun _ => rfl) (by omega) (by omega) fun _ => ?_
    simp only [Int.toNat_natCast]
    refine bcd (fun h => no fun e => ?_) (fun h => ?_)
    · subst e; exact h rfl
    · have e : a[i] = b[i] := congrArg L (Classical.not_not.1 h)
      exact chk (by omega) ⟨⟨i + 1, by omega, by omega, by trivial, by rw [List.take_succ_eq_append_getElem hia, List.take_succ_eq_append_getElem hib, he, e]⟩, by first | omega | (dsimp only; omega)⟩
  · have e : a = b := by
      rw [List.take_of_length_le (by omega), List.take_of_length_le (by omega)] at he
      exact he
    rwa [decide_eq_true e] at hK
theorem slices_Equal_api_Pair_api_Pair.c {ap bp : Option Addr} {al ac bl bc' : Nat} {a b : List (Int × Int)} {H : Hp} {K : Bool → Hp → Prop} (ha : Sn 2 pairC H ap al ac a) (hb : Sn 2 pairC H bp bl bc' b) (hl : al ≤ 1000000000) (hK : K (decide (a = b)) H) : slices_Equal_api_Pair_api_Pair.C ap al ac bp bl bc' H K := by
  apply slices_Equal_api_Pair_api_Pair.of
  have la := ha.len
  have lb := hb.len
  have no : ¬ a = b → K false H := fun h => by rwa [decide_eq_false h] at hK
  refine bcd (fun h => no fun e => h (by rw [la, lb, e])) (fun h => ?_)
  refine ⟨fun i Hx => ∃ i' : Nat, i = i' ∧ i' ≤ al ∧ H = Hx ∧ a.take i' = b.take i', fun i _ => (al - i).toNat, ⟨0, rfl, by omega, rfl, rfl⟩, ?_⟩
  rintro i _ ⟨i, rfl, hi, rfl, he⟩
  refine bcd (fun h => ?_) (fun h => ?_)
  · have hia : i < a.length := by omega
    have hib : i < b.length := by omega
    refine snP ha (by omega) (by omega) fun _ => snP hb (by omega) (by omega) fun _ => ?_
    simp only [Int.toNat_natCast]
    refine bcn (fun h => no fun e => ?_) (fun h => ?_)
    · subst e; simp at h
    · have e : a[i] = b[i] := by
        rw [Bool.and_eq_true, decide_eq_true_eq, decide_eq_true_eq] at h
        exact Prod.ext h.1 h.2
      exact chk (by omega) ⟨⟨i + 1, by omega, by omega, by trivial, by rw [List.take_succ_eq_append_getElem hia, List.take_succ_eq_append_getElem hib, he, e]⟩, by first | omega | (dsimp only; omega)⟩
  · have e : a = b := by
      rw [List.take_of_length_le (by omega), List.take_of_length_le (by omega)] at he
      exact he
    rwa [decide_eq_true e] at hK
theorem slices_Clone_string_string.s {p : Option Addr} {l k : Nat} {xs : List BL} {H : Hp} {K : Option Addr → Nat → Nat → Hp → Prop} (h : Sl sv H p l k xs) (hfit : l ≤ 1000000000) (hK : ∀ p' k' H', Buf 1 H H' p' l k' (xs.map sv) → (p = none ↔ p' = none) → Le H H' → K p' l k' H') : slices_Clone_string_string.C p l k H K := by
  apply slices_Clone_string_string.of
  exact clonS rfl rfl (by decide) rfl (fun _ => rfl) h (by show l * 16 ≤ _; omega) hK
theorem pairC_cell (x : Int × Int) : (pairC x).all isCell = true := rfl
theorem slices_Clone_api_Pair_api_Pair.s {p : Option Addr} {l k : Nat} {xs : List (Int × Int)} {H : Hp} {K : Option Addr → Nat → Nat → Hp → Prop} (h : Sn 2 pairC H p l k xs) (hfit : l ≤ 1000000000) (hK : ∀ p' k' H', Buf 2 H H' p' l k' (xs.flatMap pairC) → (p = none ↔ p' = none) → Le H H' → K p' l k' H') : slices_Clone_api_Pair_api_Pair.C p l k H K := by
  apply slices_Clone_api_Pair_api_Pair.of
  exact clonN rfl (by decide) rfl (by decide) rfl (fun _ => rfl) pairC_cell h (by show l * 16 ≤ _; omega) hK
end Go.Proofs.YteijgmmjgbgffaaDoor
namespace Go.Proofs.YteijgmmjgbgffaaDoor
open Go.V
/-! ### Is it an object? -/
def risTo (ps : List (Int × Int)) (i : Nat) : Bool := (List.range i).all fun k => decide (k = 0) || lexL (ps.getD (k - 1) (0, 0)) (ps.getD k (0, 0))
def risB (ps : List (Int × Int)) : Bool := risTo ps ps.length
theorem risTo_succ (ps : List (Int × Int)) (i : Nat) : risTo ps (i + 1) = (risTo ps i && (decide (i = 0) || lexL (ps.getD (i - 1) (0, 0)) (ps.getD i (0, 0)))) := by
  unfold risTo; rw [List.range_succ, List.all_append]; simp
theorem risTo_mono {ps : List (Int × Int)} {i j : Nat} (h : risTo ps i = false) (hij : i ≤ j) : risTo ps j = false := by
  unfold risTo at h ⊢
  rw [List.all_eq_false] at h ⊢
  obtain ⟨k, hk, h⟩ := h
  exact ⟨k, List.mem_range.2 (by have := List.mem_range.1 hk; omega), h⟩
def trB (ps : List (Int × Int)) (n : Nat) : Bool := sameM (ofM ps n) (clo (ofM ps n) n) n
def chkO (ls : List BL) (ps : List (Int × Int)) : Int := if labE ls ≠ 0 then labE ls else if risB ps && okP ps ls.length && trB ps ls.length then 0 else 10
theorem labE_len {ls : List BL} (h : labE ls = 0) : ls.length ≤ 40 := by
  unfold labE at h
  split at h
  · cases h
  · omega
theorem chkO_len {ls : List BL} {ps : List (Int × Int)} (h : chkO ls ps = 0) : ls.length ≤ 40 ∧ okP ps ls.length = true := by
  unfold chkO at h
  split at h
  · exact absurd h (by assumption)
  · rename_i h1
    refine ⟨labE_len (Classical.not_not.1 h1), ?_⟩
    split at h
    · rename_i h2
      rw [Bool.and_eq_true, Bool.and_eq_true] at h2
      exact h2.1.2
    · cases h
section
variable {lp pp : Option Addr} {ll lc pl pc : Nat} {ls : List BL} {ps : List (Int × Int)} {H : Hp}
theorem getD_at {ps : List (Int × Int)} {i : Nat} (h : i < ps.length) : ps.getD i (0, 0) = ps[i] := by simp [List.getD, h]
theorem obj_Check.c {K : Int → Hp → Prop} (hL : Sl sv H lp ll lc ls) (hP : Sn 2 pairC H pp pl pc ps) (hT : Tz H) (hpl : pl ≤ 1000000000) (hK : ∀ H', Le H H' → K (chkO ls ps) H') : obj_Check.C lp ll lc pp pl pc H K := by
  apply obj_Check.of
  have el := hL.len
  have ep := hP.len
  intro b7 hb7
  have a0 : rd (upd H b7 [.slice lp ll lc, .slice pp pl pc]) b7 0 = some (.slice lp ll lc) := by rw [rd_upd_self]; rfl
  have a1 : rd (upd H b7 [.slice lp ll lc, .slice pp pl pc]) b7 1 = some (.slice pp pl pc) := by rw [rd_upd_self]; rfl
  have le1 : Le H (upd H b7 [.slice lp ll lc, .slice pp pl pc]) := Le.upd hb7
  generalize upd H b7 [.slice lp ll lc, .slice pp pl pc] = H1 at *
  refine ldL_i a0 (obj_labels.c (hL.le le1) ?_)
  refine bcd (fun h => ?_) (fun h => ?_)
  · have := hK H1 le1
    unfold chkO at this
    rw [if_pos h] at this
    exact this
  have h0 := Classical.not_not.1 h
  have hl40 := labE_len h0
  have no : (risB ps && okP ps ls.length && trB ps ls.length) = false → ∀ H', Le H H' → K 10 H' := fun e H' le => by
    have := hK H' le
    unfold chkO at this
    rw [if_neg h, if_neg (by rw [e]; simp)] at this
    exact this
  have yes : (risB ps && okP ps ls.length && trB ps ls.length) = true → ∀ H', Le H H' → K 0 H' := fun e H' le => by
    have := hK H' le
    unfold chkO at this
    rw [if_neg h, if_pos e] at this
    exact this
  refine ⟨fun t Hx => ∃ i : Nat, t = (i : Nat) ∧ 1 ≤ i ∧ (i = 1 ∨ i ≤ pl) ∧ Le H1 Hx ∧ risTo ps i = true, fun t _ => ((pl : Int) - t).toNat, ⟨1, rfl, by omega, .inl rfl, Le.refl _, rfl⟩, ?_⟩
  rintro t H2 ⟨i, rfl, gi, gi', le2, hr⟩
  have c1 := le2.rd a1
  have hP2 := hP.le (le1.trans le2)
  refine ldL_i c1 (bcd (fun hlt => ?_) (fun hlt => ?_))
  · refine ldL_i c1 (chk (by omega) ?_)
    refine snP hP2 (by omega) (by omega) fun _ => ldL_i c1 (snP hP2 (by omega) (by omega) fun _ => ?_)
    simp only [show ((i : Nat) : Int) - 1 = ((i - 1 : Nat) : Int) by omega, Int.toNat_natCast]
    refine obj_compare.c fun H3 le3 => ?_
    have hs := risTo_succ ps i
    rw [hr, Bool.true_and, decide_eq_false (by omega), Bool.false_or, getD_at (by omega), getD_at (by omega)] at hs
    refine bcd (fun hc => ?_) (fun hc => ?_)
    · refine no ?_ H3 ((le1.trans le2).trans le3)
      have hf : risB ps = false := risTo_mono (hs.trans (cmpP_lex.1 hc)) (by omega)
      rw [hf]; rfl
    · have ht : lexL ps[i - 1] ps[i] = true := by
        cases e : lexL ps[i - 1] ps[i] with
        | true => rfl
        | false => exact absurd (cmpP_lex.2 e) hc
      exact chk (by omega) ⟨⟨i + 1, by omega, by omega, by omega, le2.trans le3, hs.trans ht⟩, by first | omega | (dsimp only; omega)⟩
  · have hris : risB ps = true := by
      unfold risB
      cases e : risTo ps ps.length with
      | true => rfl
      | false => rw [risTo_mono e (by omega)] at hr; cases hr
    rw [hris, Bool.true_and] at no yes
    refine ldL_i (le2.rd a0) (ldL_i c1 ?_)
    rw [el]
    have le12 := le1.trans le2
    refine rel_Of.c hP2 (by omega) (hT.le le12) (fun h => by omega) (fun H3 _ _ hok le3 => ?_) (fun R O H3 _ _ hok hu hO le3 => ?_)
    · refine bcd (fun _ => no ?_ H3 (le12.trans le3)) fun h => absurd (by decide) h
      rw [Int.toNat_natCast] at hok
      rw [hok]; rfl
    · refine bcd (fun h => absurd rfl h) fun _ => ?_
      rw [Int.toNat_natCast] at hok hu
      rw [hok, Bool.true_and] at no yes
      refine rel_Rel_IsTransitive.c hu fun H4 le4 => ?_
      refine bcn (fun h => no h H4 ((le12.trans le3).trans le4)) fun h => yes h H4 ((le12.trans le3).trans le4)
theorem obj_Is.c {K : Bool → Hp → Prop} (hL : Sl sv H lp ll lc ls) (hP : Sn 2 pairC H pp pl pc ps) (hT : Tz H) (hpl : pl ≤ 1000000000) (hK : ∀ H', Le H H' → K (decide (chkO ls ps = 0)) H') : obj_Is.C lp ll lc pp pl pc H K := by
  apply obj_Is.of
  intro b7 hb7
  have a0 : rd (upd H b7 [.slice lp ll lc, .slice pp pl pc]) b7 0 = some (.slice lp ll lc) := by rw [rd_upd_self]; rfl
  have a1 : rd (upd H b7 [.slice lp ll lc, .slice pp pl pc]) b7 1 = some (.slice pp pl pc) := by rw [rd_upd_self]; rfl
  have le1 : Le H (upd H b7 [.slice lp ll lc, .slice pp pl pc]) := Le.upd hb7
  generalize upd H b7 [.slice lp ll lc, .slice pp pl pc] = H1 at *
  exact ldL_i a0 (ldL_i a1 (obj_Check.c (hL.le le1) (hP.le le1) (hT.le le1) hpl fun H2 le2 => hK H2 (le1.trans le2)))
theorem centoref4_Rising.c {K : Bool → Hp → Prop} (hP : Sn 2 pairC H pp pl pc ps) (hpl : pl ≤ 1000000000) (hK : K (risB ps) H) : centoref4_Rising.C pp pl pc H K := by
  apply centoref4_Rising.of
  have ep := hP.len
  refine ⟨fun t Hx => ∃ i : Nat, t = (i : Nat) ∧ 1 ≤ i ∧ (i = 1 ∨ i ≤ pl) ∧ Hx = H ∧ risTo ps i = true, fun t _ => ((pl : Int) - t).toNat, ⟨1, rfl, by omega, .inl rfl, rfl, rfl⟩, ?_⟩
  rintro t Hx ⟨i, rfl, gi, gi', rfl, hr⟩
  refine bcd (fun hlt => ?_) (fun hlt => ?_)
  · have hs := risTo_succ ps i
    rw [hr, Bool.true_and, decide_eq_false (by omega), Bool.false_or, getD_at (by omega), getD_at (by omega)] at hs
    have hno : lexL ps[i - 1] ps[i] = false → K false Hx := fun e => by
      rw [show risB ps = false from risTo_mono (hs.trans e) (by omega)] at hK; exact hK
    have hyes : lexL ps[i - 1] ps[i] = true → risTo ps (i + 1) = true := fun e => hs.trans e
    unfold lexL at hno hyes
    rw [decide_eq_false_iff_not] at hno
    rw [decide_eq_true_eq] at hyes
    refine snA hP (by omega) (by omega) fun _ => chk (by omega) ?_
    rw [show ((i : Nat) : Int) - 1 = ((i - 1 : Nat) : Int) by omega]
    refine snA hP (by omega) (by omega) fun _ => ?_
    simp only [Int.toNat_natCast]
    refine bcd (fun h => hno (by omega)) fun h => ?_
    refine snA hP (by omega) (by omega) fun _ => chk (by omega) ?_
    refine snA hP (by omega) (by omega) fun _ => ?_
    simp only [Int.toNat_natCast]
    refine bcd (fun h => ?_) fun h => ?_
    · refine snB hP (by omega) (by omega) fun _ => chk (by omega) ?_
      refine snB hP (by omega) (by omega) fun _ => ?_
      simp only [Int.toNat_natCast]
      refine bcd (fun h' => hno (by omega)) fun h' => ?_
      exact chk (by omega) ⟨⟨i + 1, by omega, by omega, by omega, by trivial, hyes (by omega)⟩, by first | omega | (dsimp only; omega)⟩
    · exact chk (by omega) ⟨⟨i + 1, by omega, by omega, by omega, by trivial, hyes (by omega)⟩, by first | omega | (dsimp only; omega)⟩
  · have hris : risB ps = true := by
      unfold risB
      cases e : risTo ps ps.length with
      | true => rfl
      | false => rw [risTo_mono e (by omega)] at hr; cases hr
    rw [hris] at hK; exact hK
theorem centoref2_Rel_IsTransitive.c {m n : Nat} {M : Nat → Nat → Bool} {O : List Nat} {K : Bool → Hp → Prop} (hu : RFO H m O n M) (hK : ∀ H', Le H H' → K (sameM M (clo M n) n) H') : centoref2_Rel_IsTransitive.C (some ⟨m, 0, none⟩) H K := by
  apply centoref2_Rel_IsTransitive.of
  refine centoref2_Rel_Closure.c hu fun m' O' H1 hv _ le1 => ?_
  refine centoref2_Rel_Same.c (hu.le le1) hv ?_
  rw [decide_eq_true rfl, Bool.true_and]
  exact hK H1 le1
theorem centoref4_Check.c {K : Int → Hp → Prop} (hL : Sl sv H lp ll lc ls) (hP : Sn 2 pairC H pp pl pc ps) (hpl : pl ≤ 1000000000) (hK : ∀ H', Le H H' → K (chkO ls ps) H') : centoref4_Check.C lp ll lc pp pl pc H K := by
  apply centoref4_Check.of
  have el := hL.len
  have ep := hP.len
  intro b7 hb7
  have a0 : rd (upd H b7 [.slice lp ll lc, .slice pp pl pc]) b7 0 = some (.slice lp ll lc) := by rw [rd_upd_self]; rfl
  have a1 : rd (upd H b7 [.slice lp ll lc, .slice pp pl pc]) b7 1 = some (.slice pp pl pc) := by rw [rd_upd_self]; rfl
  have le1 : Le H (upd H b7 [.slice lp ll lc, .slice pp pl pc]) := Le.upd hb7
  generalize upd H b7 [.slice lp ll lc, .slice pp pl pc] = H1 at *
  refine ldL_i a0 (bcd (fun h => ?_) fun h40 => ?_)
  · have := hK H1 le1
    have e : labE ls = 11 := by unfold labE; rw [if_pos (by omega)]
    unfold chkO at this
    rw [e] at this
    exact this
  refine ⟨fun t Hx => ∃ i : Nat, t = (i : Nat) ∧ i ≤ ll ∧ Hx = H1 ∧ labOk (ls.take i) = true, fun t _ => ((ll : Int) - t).toNat, ⟨0, rfl, Nat.zero_le _, rfl, rfl⟩, ?_⟩
  rintro t Hx ⟨i, rfl, gi, rfl, hi⟩
  refine ldL_i a0 (bcd (fun hlt => ?_) fun hlt => ?_)
  · have hil : i < ls.length := by omega
    refine ldL_i a0 (slS (hL.le le1) (fun _ => rfl) (by omega) hlt fun _ => ?_)
    simp only [Int.toNat_natCast]
    refine bcd (fun hg => ?_) fun hg => ?_
    · have := hK Hx le1
      have hbad : labOk ls = false := by
        unfold labOk
        rw [List.all_eq_false]
        refine ⟨_, List.getElem_mem hil, ?_⟩
        rw [decide_eq_true_eq]
        have : (mkB ls[i]).size = ls[i].length := rfl
        omega
      have e : labE ls = 10 := by unfold labE; rw [if_neg (by omega), hbad]; rfl
      unfold chkO at this
      rw [e] at this
      exact this
    · refine chk (by omega) ⟨⟨i + 1, by omega, by omega, by trivial, ?_⟩, by first | omega | (dsimp only; omega)⟩
      rw [List.take_succ_eq_append_getElem hil]
      unfold labOk at hi ⊢
      rw [List.all_append, hi]
      have : (mkB ls[i]).size = ls[i].length := rfl
      simp; omega
  have hlab : labOk ls = true := by rw [List.take_of_length_le (by omega)] at hi; exact hi
  have h0 : labE ls = 0 := by unfold labE; rw [if_neg (by omega), if_pos hlab]
  have no : (risB ps && okP ps ls.length && trB ps ls.length) = false → ∀ H', Le H H' → K 10 H' := fun e H' le => by
    have := hK H' le
    unfold chkO at this
    rw [if_neg (by rw [h0]; simp), if_neg (by rw [e]; simp)] at this
    exact this
  have yes : (risB ps && okP ps ls.length && trB ps ls.length) = true → ∀ H', Le H H' → K 0 H' := fun e H' le => by
    have := hK H' le
    unfold chkO at this
    rw [if_neg (by rw [h0]; simp), if_pos e] at this
    exact this
  refine ldL_i a0 (ldL_i a1 ?_)
  rw [el]
  refine centoref2_Of.c (hP.le le1) (by omega) (fun h => by omega) (fun H3 _ _ hok le3 => ?_) (fun R O H3 _ _ hok hu hO le3 => ?_)
  · refine bcd (fun _ => no ?_ H3 (le1.trans le3)) fun h => absurd (by decide) h
    rw [Int.toNat_natCast] at hok
    rw [hok]; cases risB ps <;> rfl
  · refine bcd (fun h => absurd rfl h) fun _ => ?_
    rw [Int.toNat_natCast] at hok hu
    refine ldL_i (le3.rd a1) (centoref4_Rising.c (hP.le (le1.trans le3)) hpl ?_)
    refine bcn (fun h => no ?_ H3 (le1.trans le3)) fun h => ?_
    · rw [h]; rfl
    · rw [h, hok, Bool.true_and, Bool.true_and] at no yes
      refine centoref2_Rel_IsTransitive.c hu fun H4 le4 => ?_
      refine bcn (fun h => no h H4 ((le1.trans le3).trans le4)) fun h => yes h H4 ((le1.trans le3).trans le4)
theorem centoref4_Is.c {K : Bool → Hp → Prop} (hL : Sl sv H lp ll lc ls) (hP : Sn 2 pairC H pp pl pc ps) (hpl : pl ≤ 1000000000) (hK : ∀ H', Le H H' → K (decide (chkO ls ps = 0)) H') : centoref4_Is.C lp ll lc pp pl pc H K := by
  apply centoref4_Is.of
  intro b7 hb7
  have a0 : rd (upd H b7 [.slice lp ll lc, .slice pp pl pc]) b7 0 = some (.slice lp ll lc) := by rw [rd_upd_self]; rfl
  have a1 : rd (upd H b7 [.slice lp ll lc, .slice pp pl pc]) b7 1 = some (.slice pp pl pc) := by rw [rd_upd_self]; rfl
  have le1 : Le H (upd H b7 [.slice lp ll lc, .slice pp pl pc]) := Le.upd hb7
  generalize upd H b7 [.slice lp ll lc, .slice pp pl pc] = H1 at *
  exact ldL_i a0 (ldL_i a1 (centoref4_Check.c (hL.le le1) (hP.le le1) hpl fun H2 le2 => hK H2 (le1.trans le2)))
end
end Go.Proofs.YteijgmmjgbgffaaDoor
namespace Go.Proofs.YteijgmmjgbgffaaDoor
open Go.V
/-! ### Objects: their relations, copies, makes -/
def nO (ls : List BL) (ps : List (Int × Int)) : Nat := if chkO ls ps = 0 then ls.length else 0
theorem ofM_zero (ps : List (Int × Int)) : ofM ps 0 = fun _ _ => false := by funext x y; simp [ofM]
/-- A block of two slices. -/
def D2 (H : Hp) (b : Nat) (lp : Option Addr) (ll lc : Nat) (pp : Option Addr) (pl pc : Nat) : Prop := rd H b 0 = some (.slice lp ll lc) ∧ rd H b 1 = some (.slice pp pl pc)
theorem D2.new {H : Hp} {b : Nat} {lp pp : Option Addr} {ll lc pl pc : Nat} : D2 (upd H b [.slice lp ll lc, .slice pp pl pc]) b lp ll lc pp pl pc := ⟨by rw [rd_upd_self]; rfl, by rw [rd_upd_self]; rfl⟩
theorem D2.le {H H' : Hp} {b : Nat} {lp pp : Option Addr} {ll lc pl pc : Nat} (h : D2 H b lp ll lc pp pl pc) (hl : Le H H') : D2 H' b lp ll lc pp pl pc := ⟨hl.rd h.1, hl.rd h.2⟩
theorem D2.mod {H H' : Hp} {b : Nat} {O : List Nat} {lp pp : Option Addr} {ll lc pl pc : Nat} (h : D2 H b lp ll lc pp pl pc) (hl : Mod O H H') (hb : b ∉ O) : D2 H' b lp ll lc pp pl pc := ⟨hl.rd hb h.1, hl.rd hb h.2⟩
theorem D2.there {H : Hp} {b : Nat} {lp pp : Option Addr} {ll lc pl pc : Nat} (h : D2 H b lp ll lc pp pl pc) : H b ≠ none := ne_none_of_rd h.1
theorem D2.get {H : Hp} {b : Nat} {lp pp : Option Addr} {ll lc pl pc : Nat} {K : Option Addr → Nat → Nat → Option Addr → Nat → Nat → Prop} (h : D2 H b lp ll lc pp pl pc) (hK : K lp ll lc pp pl pc) :
    ldL (rd H b 0) fun a b' c => ldL (rd H b 1) fun d e f => K a b' c d e f := ldL_i h.1 (ldL_i h.2 hK)
theorem D2.put {H : Hp} {b : Nat} {lp pp lp' pp' : Option Addr} {ll lc pl pc ll' lc' pl' pc' : Nat} {K : Hp → Prop} (h : D2 H b lp ll lc pp pl pc) (hK : ∀ H', D2 H' b lp' ll' lc' pp' pl' pc' → Mod [b] H H' → K H') :
    ST H b 0 (.slice lp' ll' lc') fun H1 => ST H1 b 1 (.slice pp' pl' pc') K := by
  have r1 : rd (wr H b 0 (.slice lp' ll' lc')) b 1 = some (.slice pp pl pc) := by rw [rd_wr_off (by decide)]; exact h.2
  refine st h.1 (st r1 (hK _ ⟨?_, rd_wr_self r1⟩ ((Mod.refl.wr (.inl (by simp))).wr (.inl (by simp)))))
  rw [rd_wr_off (by decide)]; exact rd_wr_self h.1
/-- What Values goes through. -/
theorem slices_Values_api_Pair_api_Pair_1.c {cp : Nat} {p : Option Addr} {l c : Nat} {xs : List (Int × Int)} {H : Hp} {G : Int → Int → Hp → (Al → Hp → Prop) → Prop} {K : Al → Hp → Prop} (J : Nat → Hp → Prop)
    (hr : rd H cp 0 = some (.slice p l c)) (hl : l ≤ 1000000000) (hx : ∀ i Hx, J i Hx → Sn 2 pairC Hx p l c xs) (h0 : J 0 H) (hle : ∀ i Hx Hy, J i Hx → Le Hx Hy → J i Hy)
    (step : ∀ i (hi : i < xs.length) Hx (Kb : Al → Hp → Prop), J i Hx → (∀ H', J (i + 1) H' → Kb .on H') → G xs[i].1 xs[i].2 Hx Kb) (hK : ∀ Hx, J l Hx → K .on Hx) : slices_Values_api_Pair_api_Pair_1.I cp H G K := by
  apply slices_Values_api_Pair_api_Pair_1.of
  have hlen := (hx 0 H h0).len
  refine ldL_i hr ?_
  refine ⟨fun t Hx => ∃ i : Nat, t = (i : Nat) ∧ i ≤ l ∧ J i Hx, fun t _ => ((l : Int) - t).toNat, ⟨0, rfl, Nat.zero_le _, h0⟩, ?_⟩
  rintro t Hx ⟨i, rfl, gi, hJ⟩
  refine bcd (fun hlt => ?_) (fun hlt => ?_)
  · refine snP (hx i Hx hJ) (by omega) hlt fun hi => ?_
    simp only [Int.toNat_natCast]
    intro b hb
    refine ST_upd rfl (ST_upd rfl ?_)
    have r0 : rd (upd Hx b ((([.int .i64 0, .int .i64 0] : List Value).set 0 (.int .i64 xs[i].1)).set 1 (.int .i64 xs[i].2))) b 0 = some (.int .i64 xs[i].1) := by rw [rd_upd_self]; rfl
    have r1 : rd (upd Hx b ((([.int .i64 0, .int .i64 0] : List Value).set 0 (.int .i64 xs[i].1)).set 1 (.int .i64 xs[i].2))) b 1 = some (.int .i64 xs[i].2) := by rw [rd_upd_self]; rfl
    refine ldI_i r0 (ldI_i r1 (step i (by omega) _ _ (hle i _ _ hJ (Le.upd hb)) fun H' hJ' => ?_))
    exact alOn (chk (by omega) ⟨⟨i + 1, by omega, by omega, hJ'⟩, by first | omega | (dsimp only; omega)⟩)
  · have : i = l := by omega
    subst this
    exact hK Hx hJ
section
variable {lp pp : Option Addr} {ll lc pl pc : Nat} {ls : List BL} {ps : List (Int × Int)} {H : Hp}
theorem ofM_ok {ps : List (Int × Int)} {n : Nat} : ofM (ps.take 0) n = fun _ _ => false := by funext x y; simp [ofM]
theorem obj_Rel.c {K : Option Addr → Hp → Prop} (hL : Sl sv H lp ll lc ls) (hP : Sn 2 pairC H pp pl pc ps) (hT : Tz H) (hpl : pl ≤ 1000000000)
    (hK : ∀ R O H', RLO H' R O (nO ls ps) (ofM ps (nO ls ps)) → (∀ b ∈ O, H b = none) → Le H H' → K (some ⟨R, 0, none⟩) H') : obj_Rel.C lp ll lc pp pl pc H K := by
  apply obj_Rel.of
  have el := hL.len
  have ep := hP.len
  intro b7 hb7
  have d7 : D2 (upd H b7 [.slice lp ll lc, .slice pp pl pc]) b7 lp ll lc pp pl pc := D2.new
  have le1 : Le H (upd H b7 [.slice lp ll lc, .slice pp pl pc]) := Le.upd hb7
  generalize upd H b7 [.slice lp ll lc, .slice pp pl pc] = H1 at *
  refine d7.get (obj_Is.c (hL.le le1) (hP.le le1) (hT.le le1) hpl fun H2 le2 => ?_)
  have le12 := le1.trans le2
  unfold nO at hK
  refine bcn (fun h => ?_) (fun h => ?_)
  · have h := of_decide_eq_false h
    rw [if_neg h] at hK
    refine rel_New.c (hT.le le12) fun R O H3 hu hO le3 => hK R O H3 ?_ (fun b hb => none_of_le le12 (hO b hb)) (le12.trans le3)
    rw [ofM_zero]; exact hu
  · have h := of_decide_eq_true h
    rw [if_pos h] at hK
    have ho := chkO_len h
    refine ldL_i (le2.rd d7.1) (rel_New.c (hT.le le12) fun R O H3 hu hO le3 => ?_)
    rw [el, show (min (max ((ls.length : Nat) : Int) 0) 200).toNat = ls.length by omega] at hu
    have le13 := le12.trans le3
    intro b33 hb33
    refine ST_upd rfl ?_
    have r33 : rd (upd H3 b33 ((([.pointer none] : List Value)).set 0 (.pointer (some ⟨R, 0, none⟩)))) b33 0 = some (.pointer (some ⟨R, 0, none⟩)) := by rw [rd_upd_self]; rfl
    have le4 : Le H3 (upd H3 b33 ((([.pointer none] : List Value)).set 0 (.pointer (some ⟨R, 0, none⟩)))) := Le.upd hb33
    generalize upd H3 b33 ((([.pointer none] : List Value)).set 0 (.pointer (some ⟨R, 0, none⟩))) = H4 at *
    have b33O : b33 ∉ O := fun hx => hu.there _ hx hb33
    have le14 := le13.trans le4
    refine ldL_i (((le2.trans le3).trans le4).rd d7.2) ?_
    apply slices_Values_api_Pair_api_Pair.of
    intro cp hcp
    have le5 : Le H4 (upd H4 cp [.slice pp pl pc]) := Le.upd hcp
    have rc : rd (upd H4 cp [.slice pp pl pc]) cp 0 = some (.slice pp pl pc) := by rw [rd_upd_self]; rfl
    have hu5 := (hu.le le4).le le5
    have r33' := le5.rd r33
    generalize upd H4 cp [.slice pp pl pc] = H5 at *
    have le15 := le14.trans le5
    show slices_Values_api_Pair_api_Pair_1.I cp H5 _ _
    have hOH : ∀ b ∈ O, H b = none := fun b hb => none_of_le le12 (hO b hb)
    refine slices_Values_api_Pair_api_Pair_1.c (fun i Hx => Le H Hx ∧ rd Hx b33 0 = some (.pointer (some ⟨R, 0, none⟩)) ∧ RLO Hx R O ls.length (ofM (ps.take i) ls.length)) rc hpl (fun i Hx hJ => hP.le hJ.1) ⟨le15, r33', by rw [ofM_ok]; exact hu5⟩ (fun i Hx Hy hJ hl => ⟨hJ.1.trans hl, hl.rd hJ.2.1, hJ.2.2.le hl⟩) ?_ ?_
    · rintro i hi Hx Kb ⟨j1, j2, j3⟩ hon
      intro b48 hb48
      refine ST_upd rfl (ST_upd rfl ?_)
      have r0 : rd (upd Hx b48 ((([.int .i64 0, .int .i64 0] : List Value).set 0 (.int .i64 ps[i].1)).set 1 (.int .i64 ps[i].2))) b48 0 = some (.int .i64 ps[i].1) := by rw [rd_upd_self]; rfl
      have r1 : rd (upd Hx b48 ((([.int .i64 0, .int .i64 0] : List Value).set 0 (.int .i64 ps[i].1)).set 1 (.int .i64 ps[i].2))) b48 1 = some (.int .i64 ps[i].2) := by rw [rd_upd_self]; rfl
      have le6 : Le Hx (upd Hx b48 ((([.int .i64 0, .int .i64 0] : List Value).set 0 (.int .i64 ps[i].1)).set 1 (.int .i64 ps[i].2))) := Le.upd hb48
      refine ldP_i (le6.rd j2) (ldI_i r0 (ldI_i r1 (rel_Rel_Add.c (j3.le le6) fun H' hu' hm' => hon H' ⟨hm'.le (j1.trans le6) hOH, hm'.rd b33O (le6.rd j2), ?_⟩)))
      rw [List.take_succ_eq_append_getElem hi, ofM_snoc]
      exact hu'
    · rintro Hx ⟨j1, j2, j3⟩
      refine ldP_i j2 (hK R O Hx ?_ hOH j1)
      rw [List.take_of_length_le (by omega)] at j3
      exact j3
theorem centoref4_Rel.c {K : Option Addr → Hp → Prop} (hL : Sl sv H lp ll lc ls) (hP : Sn 2 pairC H pp pl pc ps) (hpl : pl ≤ 1000000000)
    (hK : ∀ m O H', RFO H' m O (nO ls ps) (ofM ps (nO ls ps)) → (∀ b ∈ O, H b = none) → Le H H' → K (some ⟨m, 0, none⟩) H') : centoref4_Rel.C lp ll lc pp pl pc H K := by
  apply centoref4_Rel.of
  have el := hL.len
  have ep := hP.len
  intro b7 hb7
  have d7 : D2 (upd H b7 [.slice lp ll lc, .slice pp pl pc]) b7 lp ll lc pp pl pc := D2.new
  have le1 : Le H (upd H b7 [.slice lp ll lc, .slice pp pl pc]) := Le.upd hb7
  generalize upd H b7 [.slice lp ll lc, .slice pp pl pc] = H1 at *
  refine d7.get (centoref4_Is.c (hL.le le1) (hP.le le1) hpl fun H2 le2 => ?_)
  have le12 := le1.trans le2
  unfold nO at hK
  refine bcn (fun h => ?_) (fun h => ?_)
  · have h := of_decide_eq_false h
    rw [if_neg h] at hK
    refine centoref2_New.c fun R O H3 hu hO le3 => hK R O H3 ?_ (fun b hb => none_of_le le12 (hO b hb)) (le12.trans le3)
    rw [ofM_zero]; exact hu
  · have h := of_decide_eq_true h
    rw [if_pos h] at hK
    have ho := chkO_len h
    refine ldL_i (le2.rd d7.1) (ldL_i (le2.rd d7.2) (centoref2_Some.c (hP.le le12) (by omega) fun R O H3 hu hO le3 => ?_))
    rw [el, show (max 0 (min ((ls.length : Nat) : Int) 200)).toNat = ls.length by omega] at hu
    exact hK R O H3 hu (fun b hb => none_of_le le12 (hO b hb)) (le12.trans le3)
def makE (ls : List BL) (n : Nat) : Int := if labE ls ≠ 0 then labE ls else if n ≠ ls.length then 10 else 0
theorem rel_Rel_Len.n {r : Option Addr} {n : Nat} {M : Nat → Nat → Bool} {K : Int → Hp → Prop} (hu : RN H r n M) (hK : K (n : Nat) H) : rel_Rel_Len.C r H K := by
  rcases hu with ⟨rfl, rfl, _, _⟩ | ⟨R, O, rfl, hu⟩
  · apply rel_Rel_Len.of
    exact bcd (fun _ => hK) fun h => absurd rfl h
  · exact rel_Rel_Len.c hu hK
theorem RN.up {r : Option Addr} {n : Nat} {M : Nat → Nat → Bool} {H' : Hp} (hu : RN H r n M) (hl : Le H H') : RN H' r n M := by
  rcases hu with ⟨h1, h2, h3, h4⟩ | ⟨R, O, rfl, hu⟩
  · exact .inl ⟨h1, h2, h3, h4.le hl⟩
  · exact .inr ⟨R, O, rfl, hu.le hl⟩
theorem obj_Make.c {r : Option Addr} {n : Nat} {M : Nat → Nat → Bool} {K : Option Addr → Nat → Nat → Option Addr → Nat → Nat → Int → Hp → Prop} (hL : Sl sv H lp ll lc ls) (hu : RN H r n M) (hll : ll ≤ 1000000000)
    (hbad : makE ls n ≠ 0 → ∀ H', Le H H' → K none 0 0 none 0 0 (makE ls n) H')
    (hok : makE ls n = 0 → ∀ lp' lc' pp' pl' pc' H', Sl sv H' lp' ll lc' ls → Sn 2 pairC H' pp' pl' pc' (prs (clo M n) n) → Le H H' → K lp' ll lc' pp' pl' pc' 0 H') : obj_Make.C lp ll lc r H K := by
  apply obj_Make.of
  have el := hL.len
  intro b5 hb5
  have d5 : D2 (upd H b5 [.slice none 0 0, .slice none 0 0]) b5 none 0 0 none 0 0 := D2.new
  have le1 : Le H (upd H b5 [.slice none 0 0, .slice none 0 0]) := Le.upd hb5
  generalize upd H b5 [.slice none 0 0, .slice none 0 0] = H1 at *
  refine obj_labels.c (hL.le le1) (bcd (fun h => ?_) fun h => ?_)
  · have e : makE ls n = labE ls := by unfold makE; rw [if_pos h]
    rw [e] at hbad
    exact d5.put fun H2 d2 m2 => d2.get (hbad h H2 (m2.le le1 (by simpa using hb5)))
  refine rel_Rel_Len.n (hu.up le1) (bcd (fun h' => ?_) fun h' => ?_)
  · have e : makE ls n = 10 := by unfold makE; rw [if_neg h, if_pos (by omega)]
    rw [e] at hbad
    exact d5.put fun H2 d2 m2 => d2.get (hbad (by decide) H2 (m2.le le1 (by simpa using hb5)))
  have e0 : makE ls n = 0 := by unfold makE; rw [if_neg h, if_neg (by omega)]
  have hok := hok e0
  refine slices_Clone_string_string.s (hL.le le1) hll fun lp' lc' H2 hB _ le2 => ?_
  have le12 := le1.trans le2
  intro b52 hb52
  have d52 : D2 (upd H2 b52 [.slice none 0 0, .slice none 0 0]) b52 none 0 0 none 0 0 := D2.new
  have le3 : Le H2 (upd H2 b52 [.slice none 0 0, .slice none 0 0]) := Le.upd hb52
  have hb52H := none_of_le le12 hb52
  have n52 : b52 ≠ b5 := fun e => (d5.le le2).there (e ▸ hb52)
  generalize upd H2 b52 [.slice none 0 0, .slice none 0 0] = H3 at *
  refine d52.put fun H4 d4 m4 => ?_
  have le4 : Le H H4 := m4.le (le12.trans le3) (by simpa using hb52H)
  have d54 : D2 H4 b5 none 0 0 none 0 0 := ((d5.le le2).le le3).mod m4 (by simpa using Ne.symm n52)
  have hB4 := (hB.le le3).mod m4 (fun b o e hb => by simp at hb; subst hb; exact hB.there e hb52)
  have no5 : ∀ b o, lp' = some ⟨b, o, none⟩ → b ∉ [b5] := fun b o e hb => by simp at hb; subst hb; exact d5.there (hB.fr b o e)
  have no52 : ∀ b o, lp' = some ⟨b, o, none⟩ → b ∉ [b52] := fun b o e hb => by simp at hb; subst hb; exact hB.there e hb52
  have hu4 := hu.up le4
  rcases hu4 with ⟨rfl, rfl, rfl, _⟩ | ⟨R, O, rfl, hu4⟩
  · refine bcd (fun h => absurd rfl h) fun _ => ?_
    refine d4.get (d54.put fun H5 d5' m5 => d5'.get (hok lp' lc' none 0 0 H5 (hB4.mod m5 no5).sl ?_ (m5.le le4 (by simpa using hb5))))
    exact ⟨rfl, Nat.le_refl _, .inl rfl⟩
  · refine bcd (fun _ => ?_) fun h => absurd (by simp) h
    refine rel_Rel_Closure.c hu4 fun R' O' H5 u5 _ le5 => rel_Rel_Pairs.c u5 fun pp' pl' pc' H6 hp6 hn6 le6 => ?_
    have le46 := le5.trans le6
    have d46 := d4.le le46
    have d56 := d54.le le46
    have hB6 := hB4.le le46
    have hH4 : H4 b5 ≠ none := d54.there
    refine st d46.2 ?_
    have m7 : Mod [b52] H6 (wr H6 b52 1 (.slice pp' pl' pc')) := Mod.refl.wr (.inl (by simp))
    have hnp : ∀ b o, pp' = some ⟨b, o, none⟩ → H4 b = none := fun b o e => none_of_le le5 (hn6 b o e)
    have hp7 : Sn 2 pairC (wr H6 b52 1 (.slice pp' pl' pc')) pp' pl' pc' (prs (clo M n) n) := by
      refine ⟨hp6.1, hp6.2.1, hp6.2.2.imp id fun ⟨b, o, e, h⟩ => ⟨b, o, e, fun i hi j v hv => m7.rd (fun hb => ?_) (h i hi j v hv)⟩⟩
      simp at hb; subst hb
      exact d4.there (hnp _ _ e)
    have d47 : D2 (wr H6 b52 1 (.slice pp' pl' pc')) b52 lp' ll lc' pp' pl' pc' := ⟨by rw [rd_wr_off (by decide)]; exact d46.1, rd_wr_self d46.2⟩
    have d57 := d56.mod m7 (by simpa using Ne.symm n52)
    have hB7 := hB6.mod m7 no52
    have le7 : Le H (wr H6 b52 1 (.slice pp' pl' pc')) := m7.le (le4.trans le46) (by simpa using hb52H)
    refine d47.get (d57.put fun H8 d8 m8 => d8.get (hok lp' lc' pp' pl' pc' H8 (hB7.mod m8 no5).sl ?_ (m8.le le7 (by simpa using hb5))))
    refine ⟨hp7.1, hp7.2.1, hp7.2.2.imp id fun ⟨b, o, e, h⟩ => ⟨b, o, e, fun i hi j v hv => m8.rd (fun hb => ?_) (h i hi j v hv)⟩⟩
    simp at hb; subst hb
    exact hH4 (hnp _ _ e)
theorem obj_Same.c {lp2 pp2 : Option Addr} {ll2 lc2 pl2 pc2 : Nat} {ls2 : List BL} {ps2 : List (Int × Int)} {K : Bool → Hp → Prop} (hL : Sl sv H lp ll lc ls) (hP : Sn 2 pairC H pp pl pc ps) (hL2 : Sl sv H lp2 ll2 lc2 ls2) (hP2 : Sn 2 pairC H pp2 pl2 pc2 ps2) (hll : ll ≤ 1000000000) (hpl : pl ≤ 1000000000)
    (hK : ∀ H', Le H H' → K (decide (ls = ls2) && decide (ps = ps2)) H') : obj_Same.C lp ll lc pp pl pc lp2 ll2 lc2 pp2 pl2 pc2 H K := by
  apply obj_Same.of
  intro b7 hb7
  have d7 : D2 (upd H b7 [.slice lp ll lc, .slice pp pl pc]) b7 lp ll lc pp pl pc := D2.new
  have le1 : Le H (upd H b7 [.slice lp ll lc, .slice pp pl pc]) := Le.upd hb7
  generalize upd H b7 [.slice lp ll lc, .slice pp pl pc] = H1 at *
  intro b8 hb8
  have d8 : D2 (upd H1 b8 [.slice lp2 ll2 lc2, .slice pp2 pl2 pc2]) b8 lp2 ll2 lc2 pp2 pl2 pc2 := D2.new
  have le2 : Le H1 (upd H1 b8 [.slice lp2 ll2 lc2, .slice pp2 pl2 pc2]) := Le.upd hb8
  generalize upd H1 b8 [.slice lp2 ll2 lc2, .slice pp2 pl2 pc2] = H2 at *
  have le12 := le1.trans le2
  have d72 := d7.le le2
  have hK := hK H2 le12
  refine ldL_i d72.1 (ldL_i d8.1 (slices_Equal_string_string.c (hL.le le12) (hL2.le le12) hll ?_))
  refine bc_i (fun h => ?_) fun h => ?_
  · rw [h, Bool.true_and] at hK
    exact ldL_i d72.2 (ldL_i d8.2 (slices_Equal_api_Pair_api_Pair.c (hP.le le12) (hP2.le le12) hpl hK))
  · rw [h, Bool.false_and] at hK; exact hK
theorem obj_Copy.c {K : Option Addr → Nat → Nat → Option Addr → Nat → Nat → Hp → Prop} (hL : Sl sv H lp ll lc ls) (hP : Sn 2 pairC H pp pl pc ps) (hll : ll ≤ 1000000000) (hpl : pl ≤ 1000000000)
    (hK : ∀ lp' lc' pp' pc' H', Buf 1 H H' lp' ll lc' (ls.map sv) → Buf 2 H H' pp' pl pc' (ps.flatMap pairC) → (∀ b ∈ blkL lp', b ∉ blkL pp') → Le H H' → K lp' ll lc' pp' pl pc' H') : obj_Copy.C lp ll lc pp pl pc H K := by
  apply obj_Copy.of
  intro b7 hb7
  have d7 : D2 (upd H b7 [.slice lp ll lc, .slice pp pl pc]) b7 lp ll lc pp pl pc := D2.new
  have le1 : Le H (upd H b7 [.slice lp ll lc, .slice pp pl pc]) := Le.upd hb7
  generalize upd H b7 [.slice lp ll lc, .slice pp pl pc] = H1 at *
  intro b9 hb9
  have d9 : D2 (upd H1 b9 [.slice none 0 0, .slice none 0 0]) b9 none 0 0 none 0 0 := D2.new
  have le2 : Le H1 (upd H1 b9 [.slice none 0 0, .slice none 0 0]) := Le.upd hb9
  have hb9H := none_of_le le1 hb9
  generalize upd H1 b9 [.slice none 0 0, .slice none 0 0] = H2 at *
  have le12 := le1.trans le2
  have d72 := d7.le le2
  refine ldL_i d72.1 (ldL_i d72.2 (slices_Clone_string_string.s (hL.le le12) hll fun lp' lc' H3 hB3 _ le3 => ⟨(d72.le le3).2, ?_⟩))
  have le13 := le12.trans le3
  refine slices_Clone_api_Pair_api_Pair.s (hP.le le13) hpl fun pp' pc' H4 hB4 _ le4 => ?_
  have d94 := (d9.le le3).le le4
  have no3 : ∀ b o, lp' = some ⟨b, o, none⟩ → b ∉ [b9] := fun b o e hb => by simp at hb; subst hb; exact d9.there (hB3.fr b o e)
  have no4 : ∀ b o, pp' = some ⟨b, o, none⟩ → b ∉ [b9] := fun b o e hb => by simp at hb; subst hb; exact (d9.le le3).there (hB4.fr b o e)
  refine d94.put fun H5 d5 m5 => d5.get (hK lp' lc' pp' pc' H5 ?_ ?_ ?_ (m5.le (le13.trans le4) (by simpa using hb9H)))
  · exact ((hB3.le le4).mod m5 no3).base fun b _ e => none_of_le le12 e
  · exact (hB4.mod m5 no4).base fun b _ e => none_of_le le13 e
  · intro b hb hb'
    exact hB3.there (blkL_mem hB3.zero hb) (hB4.fr b 0 (blkL_mem hB4.zero hb'))
end
end Go.Proofs.YteijgmmjgbgffaaDoor
namespace Go.Proofs.YteijgmmjgbgffaaDoor
open Go.V
/-! ### Objects of the document, the example -/
def fewB (ls : List BL) (ps : List (Int × Int)) : Bool := ls.all (fun x => decide (x.length ≤ 100)) && (decide (ls.length ≤ 50) && decide (ps.length ≤ 200))
section
variable {lp pp : Option Addr} {ll lc pl pc : Nat} {ls : List BL} {ps : List (Int × Int)} {H : Hp}
theorem centolaw4_few.c {K : Bool → Hp → Prop} (hL : Sl sv H lp ll lc ls) (hP : Sn 2 pairC H pp pl pc ps) (hll : ll ≤ maxLen) (hK : ∀ H', Le H H' → K (fewB ls ps) H') : centolaw4_few.C lp ll lc pp pl pc H K := by
  apply centolaw4_few.of
  have el := hL.len
  have ep := hP.len
  have hml : maxLen ≤ 9223372036854775807 := by decide
  intro b7 hb7
  have d7 : D2 (upd H b7 [.slice lp ll lc, .slice pp pl pc]) b7 lp ll lc pp pl pc := D2.new
  have le1 : Le H (upd H b7 [.slice lp ll lc, .slice pp pl pc]) := Le.upd hb7
  generalize upd H b7 [.slice lp ll lc, .slice pp pl pc] = H1 at *
  have hK := hK H1 le1
  unfold fewB at hK
  refine ⟨fun t Hx => ∃ i : Nat, t = (i : Nat) ∧ i ≤ ll ∧ Hx = H1 ∧ (ls.take i).all (fun x => decide (x.length ≤ 100)) = true, fun t _ => ((ll : Int) - t).toNat, ⟨0, rfl, Nat.zero_le _, rfl, rfl⟩, ?_⟩
  rintro t Hx ⟨i, rfl, gi, rfl, hi⟩
  refine ldL_i d7.1 (bcd (fun hlt => ?_) fun hlt => ?_)
  · have hil : i < ls.length := by omega
    have hsz : (mkB ls[i]).size = ls[i].length := rfl
    refine ldL_i d7.1 (slS (hL.le le1) (fun _ => rfl) (by omega) hlt fun _ => ?_)
    simp only [Int.toNat_natCast]
    refine bcd (fun hg => ?_) fun hg => ?_
    · have hbad : (ls.all fun x => decide (x.length ≤ 100)) = false := by
        rw [List.all_eq_false]
        refine ⟨_, List.getElem_mem hil, ?_⟩
        rw [decide_eq_true_eq]; omega
      rw [hbad, Bool.false_and] at hK; exact hK
    · refine chk (by omega) ⟨⟨i + 1, by omega, by omega, by trivial, ?_⟩, by first | omega | (dsimp only; omega)⟩
      rw [List.take_succ_eq_append_getElem hil, List.all_append, hi]
      simp; omega
  · rw [List.take_of_length_le (by omega)] at hi
    rw [hi, Bool.true_and] at hK
    refine ldL_i d7.1 (bcd (fun h => ldL_i d7.2 ?_) fun h => ?_)
    · rw [decide_eq_true (by omega), Bool.true_and] at hK
      have e : decide (((pl : Nat) : Int) ≤ 200) = decide (ps.length ≤ 200) := decide_eq_decide.2 (by omega)
      rw [e]; exact hK
    · rw [decide_eq_false (by omega), Bool.false_and] at hK; exact hK
theorem centoref4_Same.c {lp2 pp2 : Option Addr} {ll2 lc2 pl2 pc2 : Nat} {ls2 : List BL} {ps2 : List (Int × Int)} {K : Bool → Hp → Prop} (hL : Sl sv H lp ll lc ls) (hP : Sn 2 pairC H pp pl pc ps) (hL2 : Sl sv H lp2 ll2 lc2 ls2) (hP2 : Sn 2 pairC H pp2 pl2 pc2 ps2) (hll : ll ≤ 1000000000) (hpl : pl ≤ 1000000000)
    (hK : ∀ H', Le H H' → K (decide (ls = ls2) && decide (ps = ps2)) H') : centoref4_Same.C lp ll lc pp pl pc lp2 ll2 lc2 pp2 pl2 pc2 H K := by
  apply centoref4_Same.of
  have e1 := hL.len
  have e2 := hP.len
  have e3 := hL2.len
  have e4 := hP2.len
  intro b7 hb7
  have d7 : D2 (upd H b7 [.slice lp ll lc, .slice pp pl pc]) b7 lp ll lc pp pl pc := D2.new
  have le1 : Le H (upd H b7 [.slice lp ll lc, .slice pp pl pc]) := Le.upd hb7
  generalize upd H b7 [.slice lp ll lc, .slice pp pl pc] = H1 at *
  intro b8 hb8
  have d8 : D2 (upd H1 b8 [.slice lp2 ll2 lc2, .slice pp2 pl2 pc2]) b8 lp2 ll2 lc2 pp2 pl2 pc2 := D2.new
  have le2 : Le H1 (upd H1 b8 [.slice lp2 ll2 lc2, .slice pp2 pl2 pc2]) := Le.upd hb8
  generalize upd H1 b8 [.slice lp2 ll2 lc2, .slice pp2 pl2 pc2] = H2 at *
  have le12 := le1.trans le2
  have d7 := d7.le le2
  have hK := hK H2 le12
  have no : (ls = ls2 → ps ≠ ps2) → K false H2 := fun h => by
    have e : (decide (ls = ls2) && decide (ps = ps2)) = false := by
      rw [Bool.and_eq_false_iff, decide_eq_false_iff_not, decide_eq_false_iff_not]
      by_cases h1 : ls = ls2
      · exact .inr (h h1)
      · exact .inl h1
    rw [e] at hK; exact hK
  have ha := hL.le le12
  have hb := hL2.le le12
  have pa := hP.le le12
  have pb := hP2.le le12
  refine ldL_i d7.1 (ldL_i d8.1 (bcd (fun h => no fun e => absurd (by rw [e1, e3, e]) h) fun h => ldL_i d7.2 (ldL_i d8.2 (bcd (fun h' => no fun _ e => absurd (by rw [e2, e4, e]) h') fun h' => ?_))))
  unfold centoref4_Same.k1
  refine ⟨fun i Hx => ∃ i' : Nat, i = i' ∧ i' ≤ ll ∧ H2 = Hx ∧ ls.take i' = ls2.take i', fun i _ => (ll - i).toNat, ⟨0, rfl, by omega, rfl, rfl⟩, ?_⟩
  rintro i _ ⟨i, rfl, hi, rfl, he⟩
  refine ldL_i d7.1 (bcd (fun h => ?_) (fun h => ?_))
  · have hia : i < ls.length := by omega
    have hib : i < ls2.length := by omega
    refine ldL_i d7.1 (slS ha (fun _ => rfl) (by omega) (by omega) fun _ => ldL_i d8.1 (slS hb (fun _ => rfl) (by omega) (by omega) fun _ => ?_))
    simp only [Int.toNat_natCast]
    refine bcd (fun h => no fun e => ?_) (fun h => ?_)
    · subst e; exact absurd rfl h
    · have e : ls[i] = ls2[i] := congrArg L (Classical.not_not.1 h)
      exact chk (by omega) ⟨⟨i + 1, by omega, by omega, by trivial, by rw [List.take_succ_eq_append_getElem hia, List.take_succ_eq_append_getElem hib, he, e]⟩, by first | omega | (dsimp only; omega)⟩
  · have el : ls = ls2 := by
      rw [List.take_of_length_le (by omega), List.take_of_length_le (by omega)] at he
      exact he
    rw [decide_eq_true el, Bool.true_and] at hK
    refine ⟨fun i Hx => ∃ i' : Nat, i = i' ∧ i' ≤ pl ∧ H2 = Hx ∧ ps.take i' = ps2.take i', fun i _ => (pl - i).toNat, ⟨0, rfl, by omega, rfl, rfl⟩, ?_⟩
    rintro i _ ⟨i, rfl, hi, rfl, he⟩
    refine ldL_i d7.2 (bcd (fun h => ?_) (fun h => ?_))
    · have hia : i < ps.length := by omega
      have hib : i < ps2.length := by omega
      refine ldL_i d7.2 (snP pa (by omega) (by omega) fun _ => ldL_i d8.2 (snP pb (by omega) (by omega) fun _ => ?_))
      simp only [Int.toNat_natCast]
      refine bcn (fun h => no fun _ e => ?_) (fun h => ?_)
      · subst e; simp at h
      · have e : ps[i] = ps2[i] := by
          rw [Bool.and_eq_true, decide_eq_true_eq, decide_eq_true_eq] at h
          exact Prod.ext h.1 h.2
        exact chk (by omega) ⟨⟨i + 1, by omega, by omega, by trivial, by rw [List.take_succ_eq_append_getElem hia, List.take_succ_eq_append_getElem hib, he, e]⟩, by first | omega | (dsimp only; omega)⟩
    · have e : ps = ps2 := by
        rw [List.take_of_length_le (by omega), List.take_of_length_le (by omega)] at he
        exact he
      rwa [decide_eq_true e] at hK
theorem centoref4_Make.c {m n : Nat} {M : Nat → Nat → Bool} {O : List Nat} {K : Option Addr → Nat → Nat → Option Addr → Nat → Nat → Hp → Prop} (hL : Sl sv H lp ll lc ls) (hu : RFO H m O n M) (hll : ll ≤ 1000000000)
    (hok : ∀ lp' lc' pp' pl' pc' H', Sl sv H' lp' ll lc' ls → Sn 2 pairC H' pp' pl' pc' (prs (clo M n) n) → Le H H' → K lp' ll lc' pp' pl' pc' H') : centoref4_Make.C lp ll lc (some ⟨m, 0, none⟩) H K := by
  apply centoref4_Make.of
  have el := hL.len
  intro b5 hb5
  have d5 : D2 (upd H b5 [.slice none 0 0, .slice none 0 0]) b5 none 0 0 none 0 0 := D2.new
  have le1 : Le H (upd H b5 [.slice none 0 0, .slice none 0 0]) := Le.upd hb5
  generalize upd H b5 [.slice none 0 0, .slice none 0 0] = H1 at *
  have hL1 := hL.le le1
  refine (Buf.none (s := 1) (A := H1) (H := H1)).appN (te := te_string) (n := ll) (new := ls.map sv) rfl (by decide) rfl (by decide) (by simp [el]) (List.all_eq_true.2 fun v hv => by obtain ⟨x, _, rfl⟩ := List.mem_map.1 hv; rfl) (by show (0 + ll) * 16 ≤ _; omega) (Le.refl _) (fun G hG => sl_src hL1 G hG) fun p' c' H2 hB le2 _ => ?_
  rw [List.nil_append, Nat.zero_add] at hB
  rw [Nat.zero_add]
  refine centoref2_Rel_Closure.c (hu.le (le1.trans le2)) fun m' O' H3 u3 _ le3 => centoref2_Rel_Pairs.c u3 fun pp' pl' pc' H4 hp4 hn4 le4 => ?_
  have le34 := le3.trans le4
  have d54 := (d5.le le2).le le34
  have hB4 := hB.le le34
  refine d54.put fun H5 d6 m5 => d6.get (hok p' c' pp' pl' pc' H5 ?_ ?_ (m5.le ((le1.trans le2).trans le34) (by simpa using hb5)))
  · exact (hB4.mod m5 fun b o e hb => by simp at hb; subst hb; exact d5.there (hB.fr b o e)).sl
  · refine ⟨hp4.1, hp4.2.1, hp4.2.2.imp id fun ⟨b, o, e, h⟩ => ⟨b, o, e, fun i hi j v hv => m5.rd (fun hb => ?_) (h i hi j v hv)⟩⟩
    simp at hb; subst hb
    exact ((d5.le le2).le le3).there (hn4 _ _ e)
end
theorem centolaw4_known.c {H : Hp} {K : Bool → Hp → Prop} (hT : Tz H) (hK : ∀ H', Le H H' → K true H') : centolaw4_known.C H K := by
  apply centolaw4_known.of
  intro b1 hb1
  have q1 : Sl sv (upd H b1 ([.string (bs [97]), .string (bs [98])])) (some ⟨b1, 0, none⟩) 2 2 [[97], [98]] := by
    refine ⟨rfl, by decide, .inr ⟨b1, 0, rfl, fun i hi => ?_⟩⟩
    rw [rd_upd_self]
    match i, hi with
    | 0, _ => rfl
    | 1, _ => rfl
  have le1 : Le H (upd H b1 ([.string (bs [97]), .string (bs [98])])) := Le.upd hb1
  generalize upd H b1 ([.string (bs [97]), .string (bs [98])]) = H1 at *
  intro b3 hb3
  have q3 : Sn 2 pairC (upd H1 b3 ([.int .i64 0, .int .i64 1])) (some ⟨b3, 0, none⟩) 1 1 [(0, 1)] := by
    refine ⟨rfl, by decide, .inr ⟨b3, 0, rfl, fun i hi j v hv => ?_⟩⟩
    have : i = 0 := by simp at hi; omega
    subst this
    rw [rd_upd_self]
    match j, hv with
    | 0, hv => simp [pairC] at hv; subst hv; rfl
    | 1, hv => simp [pairC] at hv; subst hv; rfl
    | j + 2, hv => simp [pairC] at hv
  have le2 : Le H1 (upd H1 b3 ([.int .i64 0, .int .i64 1])) := Le.upd hb3
  generalize upd H1 b3 ([.int .i64 0, .int .i64 1]) = H2 at *
  intro b5 hb5
  have d5 : D2 (upd H2 b5 [.slice none 0 0, .slice none 0 0]) b5 none 0 0 none 0 0 := D2.new
  have le3 : Le H2 (upd H2 b5 [.slice none 0 0, .slice none 0 0]) := Le.upd hb5
  generalize upd H2 b5 [.slice none 0 0, .slice none 0 0] = H3 at *
  refine d5.put fun H4 d4 m4 => ?_
  have le24 : Le H2 H4 := m4.le le3 (by simpa using hb5)
  have le04 : Le H H4 := (le1.trans le2).trans le24
  have L4 := (q1.le le2).le le24
  have P4 := q3.le le24
  clear q1 q3 le1 le2 le3 hb1 hb3 hb5 d5 m4 le24
  refine ldL_i d4.2 (rel_Of.c P4 (by decide) (hT.le le04) (fun h => by omega) (fun H5 _ _ hok _ => absurd hok (by decide)) fun R O H5 _ _ _ u5 _ le5 => ?_)
  have u5 : RLO H5 R O 2 (ofM [(0, 1)] 2) := u5
  refine ldL_i (d4.le le5).1 (obj_Make.c (L4.le le5) (.inr ⟨R, O, rfl, u5⟩) (by decide) (fun h => absurd (by kernel_rfl) h) fun _ lp' lc' pp' pl' pc' H6 L6 P6 le6 => ?_)
  have P6 : Sn 2 pairC H6 pp' pl' pc' [(0, 1)] := P6
  intro b34 hb34
  have le7 := (le5.trans le6).trans (Le.upd (c := [.slice none 0 0, .slice none 0 0]) hb34)
  have n34 : H4 b34 = none := none_of_le (le5.trans le6) hb34
  refine D2.new.put fun H7 d7 m7 => ?_
  have le47 : Le H4 H7 := m7.le le7 (by simpa using n34)
  have le67 : Le H6 H7 := m7.le (Le.upd hb34) (by simpa using hb34)
  refine ldL_i (d4.le le47).1 (obj_Make.c (L4.le le47) (.inl ⟨rfl, rfl, rfl, hT.le (le04.trans le47)⟩) (by decide) (fun _ H8 le8 => ?_) fun h => absurd h (by decide))
  intro b53 hb53
  refine D2.new.put fun H9 d9 m9 => ?_
  have le89 : Le H8 H9 := m9.le (Le.upd hb53) (by simpa using hb53)
  have le79 := le8.trans le89
  have le49 := le47.trans le79
  have d49 := d4.le le49
  have d79 := d7.le le79
  have hT9 := hT.le (le04.trans le49)
  refine bcd (fun _ => bcd (fun _ => ?_) fun h => absurd rfl h) fun h => absurd rfl h
  refine d49.get (d79.get (obj_Same.c (L4.le le49) (P4.le le49) ((L6.le le67).le le79) ((P6.le le67).le le79) (by decide) (by decide) fun H10 le10 => ?_))
  have le410 := le49.trans le10
  refine bc_i (fun _ => bcd (fun _ => ?_) fun h => absurd (by kernel_rfl) h) fun h => absurd h (by decide)
  refine (d4.le le410).get (obj_Is.c (L4.le le410) (P4.le le410) (hT.le (le04.trans le410)) (by decide) fun H11 le11 => ?_)
  have le411 := le410.trans le11
  refine bc_i (fun _ => ?_) fun h => absurd (h.symm.trans (by kernel_rfl : _ = true)) (by decide)
  refine ldL_i (d4.le le411).2 (obj_Check.c (lp := none) (ll := 0) (lc := 0) (ls := []) ⟨rfl, Nat.le_refl _, .inl rfl⟩ (P4.le le411) (hT.le (le04.trans le411)) (by decide) fun H12 le12 => ?_)
  have le412 := le411.trans le12
  refine bcd (fun _ => ?_) fun h => absurd (by kernel_rfl) h
  refine (d4.le le412).get (obj_Rel.c (L4.le le412) (P4.le le412) (hT.le (le04.trans le412)) (by decide) fun R' O' H13 u13 _ le13 => rel_Rel_Has.c u13 ?_)
  have le413 := le412.trans le13
  refine bc_i (fun _ => ?_) fun h => absurd (h.symm.trans (by kernel_rfl : _ = true)) (by decide)
  refine obj_Is.c (lp := none) (ll := 0) (lc := 0) (ls := []) (pp := none) (pl := 0) (pc := 0) (ps := []) ⟨rfl, Nat.le_refl _, .inl rfl⟩ ⟨rfl, Nat.le_refl _, .inl rfl⟩ (hT.le (le04.trans le413)) (by decide) fun H14 le14 => ?_
  rw [show decide (chkO [] [] = 0) = true by kernel_rfl]
  exact hK H14 ((le04.trans le413).trans le14)
end Go.Proofs.YteijgmmjgbgffaaDoor
namespace Go.Proofs.YteijgmmjgbgffaaDoor
open Go.V
/-! ### Files -/
structure Ln where
  p : Int
  n : Int
  t : BL
  d : Bool
def lnC (x : Ln) : List Value := [.int .u32 x.p, .int .i64 x.n, sv x.t, .bool x.d]
theorem lnC_len (x : Ln) : (lnC x).length = 4 := rfl
theorem lnC_cell (x : Ln) : (lnC x).all isCell = true := rfl
/-- A block of a text and two slices. -/
def D3 (H : Hp) (b : Nat) (f : ByteArray) (lp : Option Addr) (ll lc : Nat) (pp : Option Addr) (pl pc : Nat) : Prop := rd H b 0 = some (.string f) ∧ rd H b 1 = some (.slice lp ll lc) ∧ rd H b 2 = some (.slice pp pl pc)
section
variable {H H' : Hp} {b : Nat} {f : ByteArray} {lp pp : Option Addr} {ll lc pl pc : Nat} {O : List Nat}
theorem D3.new : D3 (upd H b [.string f, .slice lp ll lc, .slice pp pl pc]) b f lp ll lc pp pl pc := ⟨by rw [rd_upd_self]; rfl, by rw [rd_upd_self]; rfl, by rw [rd_upd_self]; rfl⟩
theorem D3.le (h : D3 H b f lp ll lc pp pl pc) (hl : Le H H') : D3 H' b f lp ll lc pp pl pc := ⟨hl.rd h.1, hl.rd h.2.1, hl.rd h.2.2⟩
theorem D3.mod (h : D3 H b f lp ll lc pp pl pc) (hl : Mod O H H') (hb : b ∉ O) : D3 H' b f lp ll lc pp pl pc := ⟨hl.rd hb h.1, hl.rd hb h.2.1, hl.rd hb h.2.2⟩
theorem D3.there (h : D3 H b f lp ll lc pp pl pc) : H b ≠ none := ne_none_of_rd h.1
theorem D3.get {K : ByteArray → Option Addr → Nat → Nat → Option Addr → Nat → Nat → Prop} (h : D3 H b f lp ll lc pp pl pc) (hK : K f lp ll lc pp pl pc) :
    ldS (rd H b 0) fun g => ldL (rd H b 1) fun a b' c => ldL (rd H b 2) fun d e f => K g a b' c d e f := ldS_i h.1 (ldL_i h.2.1 (ldL_i h.2.2 hK))
end
/-- The places of what isn't dead. -/
def alv (ls : List Ln) : List Nat := els (fun i => !(ls.getD i ⟨0, 0, [], true⟩).d) ls.length
def alvTo (ls : List Ln) (i : Nat) : List Nat := els (fun i => !(ls.getD i ⟨0, 0, [], true⟩).d) i
section
variable {f : ByteArray} {lp pp : Option Addr} {ll lc pl pc : Nat} {ls : List Ln} {H : Hp}
theorem lnD {i : Nat} (h : i < ls.length) : ls.getD i ⟨0, 0, [], true⟩ = ls[i] := by simp [List.getD, h]
theorem state_Alive.c {K : Option Addr → Nat → Nat → Hp → Prop} (hL : Sn 4 lnC H lp ll lc ls) (hll : ll ≤ 1000000000)
    (hK : ∀ p l c H', Buf 1 H H' p l c ((alv ls).map iv) → Le H H' → K p l c H') : state_Alive.C f lp ll lc pp pl pc H K := by
  apply state_Alive.of
  have el := hL.len
  intro b hb
  have d : D3 (upd H b [.string f, .slice lp ll lc, .slice pp pl pc]) b f lp ll lc pp pl pc := D3.new
  have le1 : Le H (upd H b [.string f, .slice lp ll lc, .slice pp pl pc]) := Le.upd hb
  generalize upd H b [.string f, .slice lp ll lc, .slice pp pl pc] = H1 at *
  refine ldL_i d.2.1 ?_
  refine ⟨fun p l c t Hx => ∃ i : Nat, t = (i : Nat) ∧ i ≤ ll ∧ Le H Hx ∧ Buf 1 H Hx p l c ((alvTo ls i).map iv) ∧ l ≤ i, fun _ _ _ t _ => ((ll : Int) - t).toNat,
    ⟨0, rfl, Nat.zero_le _, le1, Buf.none, Nat.le_refl _⟩, ?_⟩
  rintro p l c t H2 ⟨i, rfl, gi, le2, hB, hli⟩
  refine bcd (fun hlt => ?_) fun hlt => ?_
  · have hil : i < ls.length := by omega
    refine sn_nil (hL.le le2) (by omega) hlt fun q o hi e => ?_
    simp only [Int.toNat_natCast] at hi e ⊢
    refine ldI_i (e 0 _ rfl) (ldI_i (e 1 _ rfl) (ldS_i (e 2 _ rfl) (ldB_i (e 3 _ rfl) ?_)))
    intro t ht
    refine ST_upd rfl (ST_upd rfl (ST_upd rfl (ST_upd rfl ?_)))
    generalize hH4 : upd H2 t _ = H4
    have le4 : Le H2 H4 := by rw [← hH4]; exact Le.upd ht
    have t3 : rd H4 t 3 = some (.bool ls[i].d) := by rw [← hH4, rd_upd_self]; rfl
    clear hH4
    refine ldB_i t3 (bcn (fun hd => ?_) fun hd => ?_)
    · have hs : alvTo ls (i + 1) = alvTo ls i ++ [i] := els_on (by rw [lnD hil, hd]; rfl)
      refine (hB.le le4).pushM (te := te_int) (new := [iv i]) rfl (by decide) rfl (by decide) rfl rfl (by simp [te_int]; omega) (fun p' c' H5 hB5 hp m5 => ?_) (le2.trans le4)
      exact chk (by omega) ⟨⟨i + 1, by omega, by omega, m5.le (le2.trans le4) fun x hx => hB.fr x 0 (blkL_mem hB.zero hx), by rw [hs, List.map_append]; exact hB5, by omega⟩, by first | omega | (dsimp only; omega)⟩
    · have hs : alvTo ls (i + 1) = alvTo ls i := els_off (by rw [lnD hil, hd]; rfl)
      exact chk (by omega) ⟨⟨i + 1, by omega, by omega, le2.trans le4, by rw [hs]; exact hB.le le4, by omega⟩, by first | omega | (dsimp only; omega)⟩
  · have : i = ls.length := by omega
    subst this
    exact hK p l c H2 hB le2
theorem centoref12_Alive.c {K : Option Addr → Nat → Nat → Hp → Prop} (hL : Sn 4 lnC H lp ll lc ls) (hll : ll ≤ 1000000000)
    (hK : ∀ p l c H', Buf 1 H H' p l c ((alv ls).map iv) → Le H H' → K p l c H') : centoref12_Alive.C f lp ll lc pp pl pc H K := by
  apply centoref12_Alive.of
  have el := hL.len
  intro b hb
  have d : D3 (upd H b [.string f, .slice lp ll lc, .slice pp pl pc]) b f lp ll lc pp pl pc := D3.new
  have le1 : Le H (upd H b [.string f, .slice lp ll lc, .slice pp pl pc]) := Le.upd hb
  generalize upd H b [.string f, .slice lp ll lc, .slice pp pl pc] = H1 at *
  refine ⟨fun p l c t Hx => ∃ i : Nat, t = (i : Nat) ∧ i ≤ ll ∧ Le H1 Hx ∧ Buf 1 H1 Hx p l c ((alvTo ls i).map iv) ∧ l ≤ i, fun _ _ _ t _ => ((ll : Int) - t).toNat,
    ⟨0, rfl, Nat.zero_le _, Le.refl _, Buf.none, Nat.le_refl _⟩, ?_⟩
  rintro p l c t H2 ⟨i, rfl, gi, le2, hB, hli⟩
  refine ldL_i (d.le le2).2.1 (bcd (fun hlt => ?_) fun hlt => ?_)
  · have hil : i < ls.length := by omega
    refine ldL_i (d.le le2).2.1 (sn_nil (hL.le (le1.trans le2)) (by omega) hlt fun q o hi e => ?_)
    simp only [Int.toNat_natCast] at hi e ⊢
    refine ldB_i (e 3 _ rfl) (bcn (fun hd => ?_) fun hd => ?_)
    · have hs : alvTo ls (i + 1) = alvTo ls i ++ [i] := els_on (by rw [lnD hil, hd]; rfl)
      refine hB.pushM (te := te_int) (new := [iv i]) rfl (by decide) rfl (by decide) rfl rfl (by simp [te_int]; omega) (fun p' c' H5 hB5 hp m5 => ?_) le2
      exact chk (by omega) ⟨⟨i + 1, by omega, by omega, m5.le le2 fun x hx => hB.fr x 0 (blkL_mem hB.zero hx), by rw [hs, List.map_append]; exact hB5, by omega⟩, by first | omega | (dsimp only; omega)⟩
    · have hs : alvTo ls (i + 1) = alvTo ls i := els_off (by rw [lnD hil, hd]; rfl)
      exact chk (by omega) ⟨⟨i + 1, by omega, by omega, le2, by rw [hs]; exact hB, by omega⟩, by first | omega | (dsimp only; omega)⟩
  · have : i = ls.length := by omega
    subst this
    exact hK p l c H2 (hB.base fun x _ e => none_of_le le1 e) (le1.trans le2)
end
end Go.Proofs.YteijgmmjgbgffaaDoor
namespace Go.Proofs.YteijgmmjgbgffaaDoor
open Go.V
/-! ### The relation of what is alive -/
def cM (ls : List Ln) (ps : List (Int × Int)) : Nat → Nat → Bool := clo (ofM ps ls.length) ls.length
def rM (ls : List Ln) (ps : List (Int × Int)) : Nat → Nat → Bool := fun x y => decide (x < (alv ls).length ∧ y < (alv ls).length) && cM ls ps ((alv ls).getD x 0) ((alv ls).getD y 0)
def rmTo (ls : List Ln) (ps : List (Int × Int)) (a b : Nat) : Nat → Nat → Bool := fun x y => rM ls ps x y && decide (x < a ∨ x = a ∧ y < b)
section
variable {f : ByteArray} {lp pp : Option Addr} {ll lc pl pc : Nat} {ls : List Ln} {ps : List (Int × Int)} {H : Hp}
theorem cM_sup : Sup (cM ls ps) ls.length := clo_sup (ofM_sup _ _)
theorem cM_tr : Tr (cM ls ps) := clo_tr (ofM_sup _ _)
theorem rM_sup : Sup (rM ls ps) (alv ls).length := fun x y h => by unfold rM; rw [decide_eq_false (by omega), Bool.false_and]
theorem rM_tr : Tr (rM ls ps) := fun x y z h1 h2 => by
  unfold rM at *
  rw [Bool.and_eq_true, decide_eq_true_eq] at *
  exact ⟨by omega, cM_tr _ _ _ h1.2 h2.2⟩
theorem alv_lt {i : Nat} (h : i < (alv ls).length) : (alv ls)[i] < ls.length := (els_mem.1 (List.getElem_mem h)).1
theorem alv_len : (alv ls).length ≤ ls.length := els_len_le _ _
theorem rmTo_on {a b : Nat} (ha : a < (alv ls).length) (hb : b < (alv ls).length) (h : cM ls ps (alv ls)[a] (alv ls)[b] = true) : addM (rmTo ls ps a b) (alv ls).length (a : Nat) (b : Nat) = rmTo ls ps a (b + 1) := by
  funext x y
  unfold addM rmTo
  rw [Bool.eq_iff_iff, Bool.or_eq_true, Bool.and_eq_true, Bool.and_eq_true, decide_eq_true_eq, decide_eq_true_eq, decide_eq_true_eq]
  constructor
  · rintro (⟨h1, h2⟩ | h1)
    · exact ⟨h1, by omega⟩
    · have hx : x = a := by omega
      have hy : y = b := by omega
      subst hx; subst hy
      refine ⟨?_, by omega⟩
      unfold rM
      rw [decide_eq_true ⟨ha, hb⟩, Bool.true_and]
      simpa [List.getD, ha, hb] using h
  · rintro ⟨h1, h2⟩
    by_cases e : x = a ∧ y = b
    · right; omega
    · left; exact ⟨h1, by omega⟩
theorem rmTo_off {a b : Nat} (ha : a < (alv ls).length) (hb : b < (alv ls).length) (h : cM ls ps (alv ls)[a] (alv ls)[b] = false) : rmTo ls ps a (b + 1) = rmTo ls ps a b := by
  funext x y
  unfold rmTo
  rw [Bool.eq_iff_iff, Bool.and_eq_true, Bool.and_eq_true, decide_eq_true_eq, decide_eq_true_eq]
  constructor
  · rintro ⟨h1, h2⟩
    refine ⟨h1, ?_⟩
    by_cases e : x = a ∧ y = b
    · exfalso
      obtain ⟨rfl, rfl⟩ := e
      unfold rM at h1
      rw [Bool.and_eq_true] at h1
      have := h1.2
      rw [show (alv ls).getD x 0 = (alv ls)[x] by simp [List.getD, ha], show (alv ls).getD y 0 = (alv ls)[y] by simp [List.getD, hb], h] at this
      cases this
    · omega
  · rintro ⟨h1, h2⟩
    exact ⟨h1, by omega⟩
theorem rmTo_row {a : Nat} : rmTo ls ps a (alv ls).length = rmTo ls ps (a + 1) 0 := by
  funext x y
  unfold rmTo
  rw [Bool.eq_iff_iff, Bool.and_eq_true, Bool.and_eq_true, decide_eq_true_eq, decide_eq_true_eq]
  constructor
  · rintro ⟨h1, h2⟩; exact ⟨h1, by omega⟩
  · rintro ⟨h1, h2⟩
    refine ⟨h1, ?_⟩
    unfold rM at h1
    rw [Bool.and_eq_true, decide_eq_true_eq] at h1
    omega
theorem rmTo_all : rmTo ls ps (alv ls).length 0 = rM ls ps := by
  funext x y
  unfold rmTo
  rw [Bool.eq_iff_iff, Bool.and_eq_true, decide_eq_true_eq]
  constructor
  · exact fun h => h.1
  · intro h
    refine ⟨h, ?_⟩
    unfold rM at h
    rw [Bool.and_eq_true, decide_eq_true_eq] at h
    omega
theorem view_Alive.c {K : Option Addr → Nat → Nat → Option Addr → Hp → Prop} (hL : Sn 4 lnC H lp ll lc ls) (hP : Sn 2 pairC H pp pl pc ps) (hT : Tz H) (hll : ll ≤ 200) (hpl : pl ≤ 1000000000)
    (hK : ∀ p l c R O H', Sl iv H' p l c (alv ls) → New H p → RLO H' R O (alv ls).length (rM ls ps) → (∀ b ∈ O, H b = none) → Le H H' → K p l c (some ⟨R, 0, none⟩) H') : view_Alive.C f lp ll lc pp pl pc H K := by
  apply view_Alive.of
  have el := hL.len
  have ep := hP.len
  intro b hb
  have d : D3 (upd H b [.string f, .slice lp ll lc, .slice pp pl pc]) b f lp ll lc pp pl pc := D3.new
  have le1 : Le H (upd H b [.string f, .slice lp ll lc, .slice pp pl pc]) := Le.upd hb
  generalize upd H b [.string f, .slice lp ll lc, .slice pp pl pc] = H1 at *
  refine ldL_i d.2.1 (rel_New.c (hT.le le1) fun R O H2 u2 hO le2 => ?_)
  rw [el, show (min (max ((ls.length : Nat) : Int) 0) 200).toNat = ls.length by omega] at u2
  refine ldL_i (d.le le2).2.2 ?_
  have le02 := le1.trans le2
  have d2 := d.le le2
  refine ⟨fun t Hx => ∃ i : Nat, t = (i : Nat) ∧ i ≤ pl ∧ Le H1 Hx ∧ RLO Hx R O ls.length (ofM (ps.take i) ls.length), fun t _ => ((pl : Int) - t).toNat,
    ⟨0, rfl, Nat.zero_le _, le2, u2.congr fun x y => by simp [ofM]⟩, ?_⟩
  rintro t H3 ⟨i, rfl, gi, le3, u3⟩
  refine bcd (fun hlt => ?_) fun hlt => ?_
  · have hil : i < ps.length := by omega
    refine snP (hP.le (le1.trans le3)) (by omega) hlt fun _ => ?_
    simp only [Int.toNat_natCast]
    intro t ht
    refine ST_upd rfl (ST_upd rfl ?_)
    generalize hH4 : upd H3 t _ = H4
    have le4 : Le H3 H4 := by rw [← hH4]; exact Le.upd ht
    have t0 : rd H4 t 0 = some (.int .i64 ps[i].1) := by rw [← hH4, rd_upd_self]; rfl
    have t1 : rd H4 t 1 = some (.int .i64 ps[i].2) := by rw [← hH4, rd_upd_self]; rfl
    clear hH4
    refine ldI_i t0 (ldI_i t1 (rel_Rel_Add.c (u3.le le4) fun H5 u5 m5 => ?_))
    refine chk (by omega) ⟨⟨i + 1, by omega, by omega, m5.le (le3.trans le4) hO, ?_⟩, by first | omega | (dsimp only; omega)⟩
    rw [List.take_succ_eq_append_getElem hil, ofM_snoc]
    exact u5
  · rw [List.take_of_length_le (by omega)] at u3
    refine rel_Rel_Closure.c u3 fun R' O' H4 u4 _ le4 => ?_
    have le14 := le3.trans le4
    refine (d.le le14).get (state_Alive.c (hL.le (le1.trans le14)) (by omega) fun p l c H5 hB5 le5 => ?_)
    have le15 := le14.trans le5
    have S5 := hB5.sl
    have sl := S5.len
    have ha := alv_len (ls := ls)
    refine rel_New.c (hT.le (le1.trans le15)) fun R2 O2 H6 u6 hO2 le6 => ?_
    rw [sl, show (min (max (((alv ls).length : Nat) : Int) 0) 200).toNat = (alv ls).length by omega] at u6
    have uc := (u4.le le5).le le6
    have S6 := S5.le le6
    have le16 := le15.trans le6
    have hO2H : ∀ x ∈ O2, H5 x = none := hO2
    refine ⟨fun t Hx => ∃ i : Nat, t = (i : Nat) ∧ i ≤ l ∧ Le H5 Hx ∧ RLO Hx R2 O2 (alv ls).length (rmTo ls ps i 0), fun t _ => ((l : Int) - t).toNat,
      ⟨0, rfl, Nat.zero_le _, le6, u6.congr fun x y => by unfold rmTo; rw [decide_eq_false (by omega), Bool.and_false]⟩, ?_⟩
    rintro t H7 ⟨i, rfl, gi, le7, u7⟩
    refine bcd (fun hlt => ?_) fun hlt => ?_
    · have hil : i < (alv ls).length := by omega
      refine slI (S5.le le7) (fun _ => rfl) (by omega) hlt fun _ => ?_
      simp only [Int.toNat_natCast]
      refine ⟨fun t Hx => ∃ j : Nat, t = (j : Nat) ∧ j ≤ l ∧ Le H5 Hx ∧ RLO Hx R2 O2 (alv ls).length (rmTo ls ps i j), fun t _ => ((l : Int) - t).toNat, ⟨0, rfl, Nat.zero_le _, le7, u7⟩, ?_⟩
      rintro t H8 ⟨j, rfl, gj, le8, u8⟩
      refine bcd (fun hlt' => ?_) fun hlt' => ?_
      · have hjl : j < (alv ls).length := by omega
        refine slI (S5.le le8) (fun _ => rfl) (by omega) hlt' fun _ => ?_
        simp only [Int.toNat_natCast]
        refine rel_Rel_Has.c ((u4.le le5).le le8) ?_
        have hh : hasM (clo (ofM ps ls.length) ls.length) (((alv ls)[i] : Nat) : Int) (((alv ls)[j] : Nat) : Int) = cM ls ps (alv ls)[i] (alv ls)[j] := by
          unfold hasM cM
          rw [decide_eq_true ⟨by omega, by omega⟩, Bool.true_and, Int.toNat_natCast, Int.toNat_natCast]
        rw [hh]
        refine bc_i (fun h => rel_Rel_Add.c u8 fun H9 u9 m9 => ?_) fun h => ?_
        · rw [rmTo_on hil hjl h] at u9
          exact chk (by omega) ⟨⟨j + 1, by omega, by omega, m9.le le8 hO2H, u9⟩, by first | omega | (dsimp only; omega)⟩
        · rw [← rmTo_off hil hjl h] at u8
          exact chk (by omega) ⟨⟨j + 1, by omega, by omega, le8, u8⟩, by first | omega | (dsimp only; omega)⟩
      · have : j = (alv ls).length := by omega
        subst this
        rw [rmTo_row] at u8
        exact chk (by omega) ⟨⟨i + 1, by omega, by omega, le8, u8⟩, by first | omega | (dsimp only; omega)⟩
    · have : i = (alv ls).length := by omega
      subst this
      rw [rmTo_all] at u7
      exact hK p l c R2 O2 H7 (S5.le le7) (fun x o e => none_of_le (le1.trans le14) (hB5.fr x o e)) u7 (fun x hx => none_of_le (le1.trans le15) (hO2 x hx)) ((le1.trans le15).trans le7)
end
end Go.Proofs.YteijgmmjgbgffaaDoor
namespace Go.Proofs.YteijgmmjgbgffaaDoor
open Go.V
/-! ### The mark; the document's relation -/
def apartM (M : Nat → Nat → Bool) (n i : Nat) : Bool := (List.range n).any fun k => decide (k ≠ i) && (!M i k && !M k i)
def markM (M : Nat → Nat → Bool) (n i : Nat) : Int := if M i i then 33 else if apartM M n i then 63 else 32
theorem view_mark.c {R n i : Nat} {M : Nat → Nat → Bool} {O : List Nat} {H : Hp} {K : Int → Hp → Prop} (hu : RLO H R O n M) (hK : K (markM M n i) H) : view_mark.C (some ⟨R, 0, none⟩) (i : Nat) H K := by
  apply view_mark.of
  have hlim := hu.lim
  have hh : ∀ a b : Nat, hasM M (a : Int) (b : Int) = M a b := fun a b => by
    unfold hasM; rw [decide_eq_true ⟨by omega, by omega⟩, Bool.true_and, Int.toNat_natCast, Int.toNat_natCast]
  unfold markM at hK
  refine rel_Rel_Has.c hu ?_
  rw [hh]
  refine bc_i (fun h => ?_) fun h => ?_
  · rw [h, if_pos rfl] at hK; exact hK
  rw [h, if_neg (by simp)] at hK
  refine rel_Rel_Len.c hu ?_
  refine ⟨fun t Hx => ∃ k : Nat, t = (k : Nat) ∧ k ≤ n ∧ Hx = H ∧ apartM M k i = false, fun t _ => ((n : Int) - t).toNat, ⟨0, rfl, Nat.zero_le _, rfl, rfl⟩, ?_⟩
  rintro t Hx ⟨k, rfl, gk, rfl, hk⟩
  have hs : apartM M (k + 1) i = (apartM M k i || (decide (k ≠ i) && (!M i k && !M k i))) := by
    unfold apartM; rw [List.range_succ, List.any_append]; simp
  rw [hk, Bool.false_or] at hs
  refine bcd (fun hlt => ?_) fun hlt => ?_
  · have next : (decide (k ≠ i) && (!M i k && !M k i)) = false → CHK .i64 ((k : Int) + 1) fun x => (∃ k' : Nat, x = (k' : Nat) ∧ k' ≤ n ∧ Hx = Hx ∧ apartM M k' i = false) ∧ ((n : Int) - x).toNat < ((n : Int) - (k : Int)).toNat := fun h =>
      chk (by omega) ⟨⟨k + 1, by omega, by omega, rfl, hs.trans h⟩, by omega⟩
    refine bcd (fun hne => ?_) fun hne => next (by rw [decide_eq_false (by omega)]; rfl)
    refine rel_Rel_Has.c hu ?_
    rw [hh]
    refine bcn (fun h1 => ?_) fun h1 => next (by rw [h1]; simp)
    refine rel_Rel_Has.c hu ?_
    rw [hh]
    refine bcn (fun h2 => ?_) fun h2 => next (by rw [h2]; simp)
    have ha : apartM M n i = true := List.any_eq_true.2 ⟨k, List.mem_range.2 (by omega), by rw [h1, h2, decide_eq_true (by omega)]; rfl⟩
    rw [ha, if_pos rfl] at hK; exact hK
  · have : k = n := by omega
    subst this
    rw [hk, if_neg (by simp)] at hK; exact hK
end Go.Proofs.YteijgmmjgbgffaaDoor
namespace Go.Proofs.YteijgmmjgbgffaaDoor
open Go.V
/-! ### The document's relation of what is alive -/
section
variable {f : ByteArray} {lp pp : Option Addr} {ll lc pl pc : Nat} {ls : List Ln} {ps : List (Int × Int)} {H : Hp}
theorem rmTo_set {a b : Nat} (ha : a < (alv ls).length) (hb : b < (alv ls).length) (x y : Nat) : rmTo ls ps a (b + 1) x y = if x = a ∧ y = b then cM ls ps (alv ls)[a] (alv ls)[b] else rmTo ls ps a b x y := by
  by_cases e : x = a ∧ y = b
  · rw [if_pos e]
    obtain ⟨rfl, rfl⟩ := e
    unfold rmTo rM
    rw [decide_eq_true ⟨ha, hb⟩, decide_eq_true (by omega), Bool.true_and, Bool.and_true]
    simp [List.getD, ha, hb]
  · rw [if_neg e]
    unfold rmTo
    rw [show decide (x < a ∨ x = a ∧ y < b + 1) = decide (x < a ∨ x = a ∧ y < b) from decide_eq_decide.2 (by omega)]
theorem centoref12_rel.c {K : Option Addr → Option Addr → Nat → Nat → Hp → Prop} (hL : Sn 4 lnC H lp ll lc ls) (hP : Sn 2 pairC H pp pl pc ps) (hll : ll ≤ 200) (hpl : pl ≤ 1000000000)
    (hK : ∀ p l c m O H', Sl iv H' p l c (alv ls) → RFO H' m O (alv ls).length (rM ls ps) → (∀ b ∈ O, H b = none) → Le H H' → K (some ⟨m, 0, none⟩) p l c H') : centoref12_rel.C f lp ll lc pp pl pc H K := by
  apply centoref12_rel.of
  have el := hL.len
  have ep := hP.len
  intro b hb
  have d : D3 (upd H b [.string f, .slice lp ll lc, .slice pp pl pc]) b f lp ll lc pp pl pc := D3.new
  have le1 : Le H (upd H b [.string f, .slice lp ll lc, .slice pp pl pc]) := Le.upd hb
  generalize upd H b [.string f, .slice lp ll lc, .slice pp pl pc] = H1 at *
  refine d.get (centoref12_Alive.c (hL.le le1) (by omega) fun p l c H2 hB2 le2 => ?_)
  have S2 := hB2.sl
  have sl := S2.len
  have ha := alv_len (ls := ls)
  refine ldL_i (d.le le2).2.1 (ldL_i (d.le le2).2.2 (centoref2_Some.c (hP.le (le1.trans le2)) (by omega) fun R O H3 u3 _ le3 => ?_))
  rw [el, show (max 0 (min ((ls.length : Nat) : Int) 200)).toNat = ls.length by omega] at u3
  refine centoref2_Rel_Closure.c u3 fun R' O' H4 u4 _ le4 => ?_
  refine centoref2_New.c fun m O2 H5 u5 hO2 le5 => ?_
  rw [sl, show (max 0 (min (((alv ls).length : Nat) : Int) 200)).toNat = (alv ls).length by omega] at u5
  have le25 := (le3.trans le4).trans le5
  have le05 := (le1.trans le2).trans le25
  have S5 := S2.le (le3.trans le4)
  have S5' := S2.le le25
  refine ⟨fun t Hx => ∃ i : Nat, t = (i : Nat) ∧ i ≤ l ∧ Le H4 Hx ∧ RFO Hx m O2 (alv ls).length (rmTo ls ps i 0), fun t _ => ((l : Int) - t).toNat,
    ⟨0, rfl, Nat.zero_le _, le5, u5.congr fun x y => by unfold rmTo; rw [decide_eq_false (by omega), Bool.and_false]⟩, ?_⟩
  rintro t H7 ⟨i, rfl, gi, le7, u7⟩
  refine bcd (fun hlt => ?_) fun hlt => ?_
  · have hil : i < (alv ls).length := by omega
    refine ⟨fun t Hx => ∃ j : Nat, t = (j : Nat) ∧ j ≤ l ∧ Le H4 Hx ∧ RFO Hx m O2 (alv ls).length (rmTo ls ps i j), fun t _ => ((l : Int) - t).toNat, ⟨0, rfl, Nat.zero_le _, le7, u7⟩, ?_⟩
    rintro t H8 ⟨j, rfl, gj, le8, u8⟩
    refine bcd (fun hlt' => ?_) fun hlt' => ?_
    · have hjl : j < (alv ls).length := by omega
      obtain ⟨B, bs, hOe, v8⟩ := u8
      obtain ⟨q, cc, g1, _, g3⟩ := v8.hm
      obtain rfl := g3.resolve_left (by omega)
      obtain ⟨B4, bs4, _, v4⟩ := u4.le le8
      obtain ⟨q4, cc4, k1, _, k3⟩ := v4.hm
      have h1 := alv_lt hil
      have h2 := alv_lt hjl
      obtain rfl := k3.resolve_left (by omega)
      have S8 := S5.le le8
      refine nil (ldL_i (by rw [Nat.zero_add]; exact g1) (idxN i rfl hil (nil (ldL_i (by rw [Nat.zero_add]; exact v8.ptr i (by rw [v8.lb]; exact hil)) ?_))))
      refine nil (ldL_i (by rw [Nat.zero_add]; exact k1) ?_)
      refine slI S8 (fun _ => rfl) (by omega) hlt fun _ => ?_
      simp only [Int.toNat_natCast]
      refine idxN (alv ls)[i] rfl h1 (nil (ldL_i (by rw [Nat.zero_add]; exact v4.ptr (alv ls)[i] (by rw [v4.lb]; exact h1)) ?_))
      refine slI S8 (fun _ => rfl) (by omega) hlt' fun _ => ?_
      simp only [Int.toNat_natCast]
      refine idxN (alv ls)[j] rfl h2 (nil (ldB_i (by rw [Nat.zero_add]; exact v4.row (alv ls)[i] (by rw [v4.lb]; exact h1) (alv ls)[j] h2) ?_))
      refine idxN j rfl hjl (nil (st0 (v8.row i (by rw [v8.lb]; exact hil) j hjl) ?_))
      have hset := v8.set hil hjl (v := cM ls ps (alv ls)[i] (alv ls)[j])
      have mw : Mod (m :: B :: bs) H8 (wr H8 (bs[i]'(by rw [v8.lb]; exact hil)) j (.bool (cM ls ps (alv ls)[i] (alv ls)[j]))) := Mod.refl.wr (.inl (by simp))
      refine chk (by omega) ⟨⟨j + 1, by omega, by omega, mw.le le8 (by rw [← hOe]; exact hO2), ?_⟩, by first | omega | (dsimp only; omega)⟩
      exact RFO.congr ⟨B, bs, hOe, hset⟩ (rmTo_set hil hjl)
    · have : j = (alv ls).length := by omega
      subst this
      rw [rmTo_row] at u8
      exact chk (by omega) ⟨⟨i + 1, by omega, by omega, le8, u8⟩, by first | omega | (dsimp only; omega)⟩
  · have : i = (alv ls).length := by omega
    subst this
    rw [rmTo_all] at u7
    have le24 := le3.trans le4
    exact hK p l c m O2 H7 (S5.le le7) u7 (fun x hx => none_of_le ((le1.trans le2).trans le24) (hO2 x hx)) (((le1.trans le2).trans le24).trans le7)
end
end Go.Proofs.YteijgmmjgbgffaaDoor
namespace Go.Proofs.YteijgmmjgbgffaaDoor
open Go.V
/-! ### Is it linear? -/
section
variable {f : ByteArray} {lp pp : Option Addr} {ll lc pl pc : Nat} {ls : List Ln} {ps : List (Int × Int)} {H : Hp}
theorem clo_rM : clo (rM ls ps) (alv ls).length = rM ls ps := clo_of_tr rM_sup rM_tr
def linB (ls : List Ln) (ps : List (Int × Int)) : Bool := totB (rM ls ps) (alv ls).length
theorem view_Linear.c {K : Bool → Hp → Prop} (hL : Sn 4 lnC H lp ll lc ls) (hP : Sn 2 pairC H pp pl pc ps) (hT : Tz H) (hll : ll ≤ 200) (hpl : pl ≤ 1000000000) (hK : ∀ H', Le H H' → K (linB ls ps) H') : view_Linear.C f lp ll lc pp pl pc H K := by
  apply view_Linear.of
  intro b hb
  have d : D3 (upd H b [.string f, .slice lp ll lc, .slice pp pl pc]) b f lp ll lc pp pl pc := D3.new
  have le1 : Le H (upd H b [.string f, .slice lp ll lc, .slice pp pl pc]) := Le.upd hb
  generalize upd H b [.string f, .slice lp ll lc, .slice pp pl pc] = H1 at *
  refine d.get (view_Alive.c (hL.le le1) (hP.le le1) (hT.le le1) hll hpl fun p l c R O H2 _ _ u2 _ le2 => ?_)
  have := u2.lim
  refine order_IsTotal.c (.inr ⟨R, O, rfl, u2⟩) this fun H3 le3 => ?_
  rw [clo_rM]
  exact hK H3 ((le1.trans le2).trans le3)
theorem centoref12_Linear.c {K : Bool → Hp → Prop} (hL : Sn 4 lnC H lp ll lc ls) (hP : Sn 2 pairC H pp pl pc ps) (hll : ll ≤ 200) (hpl : pl ≤ 1000000000) (hK : ∀ H', Le H H' → K (linB ls ps) H') : centoref12_Linear.C f lp ll lc pp pl pc H K := by
  apply centoref12_Linear.of
  intro b hb
  have d : D3 (upd H b [.string f, .slice lp ll lc, .slice pp pl pc]) b f lp ll lc pp pl pc := D3.new
  have le1 : Le H (upd H b [.string f, .slice lp ll lc, .slice pp pl pc]) := Le.upd hb
  generalize upd H b [.string f, .slice lp ll lc, .slice pp pl pc] = H1 at *
  refine d.get (centoref12_rel.c (hL.le le1) (hP.le le1) hll hpl fun p l c m O H2 _ u2 _ le2 => ?_)
  exact centoref2_Rel_IsTotal.c u2 (hK H2 (le1.trans le2))
end
end Go.Proofs.YteijgmmjgbgffaaDoor
