/- Contracts. -/
import Derived.Test.YteijgmmjgbgffaaDoorB2
namespace Go.Proofs.YteijgmmjgbgffaaDoor
open Go.V
/-! ### Relations -/
theorem nodup_inj {l : List Nat} (h : l.Nodup) {i j : Nat} (hi : i < l.length) (hj : j < l.length) (e : l[i] = l[j]) : i = j := by
  rcases Nat.lt_trichotomy i j with h1 | h1 | h1
  · exact absurd e (List.pairwise_iff_getElem.1 h i j hi hj h1)
  · exact h1
  · exact absurd e.symm (List.pairwise_iff_getElem.1 h j i hj hi h1)
/-- Relation R: its rows lie in block B, row i is rs[i], its words qs[i]; M tells who is ahead of whom. -/
structure RL (H : Hp) (R B : Nat) (rs qs : List Nat) (n : Nat) (M : Nat → Nat → Bool) : Prop where
  tz : Tz H
  lim : n ≤ 200
  lr : rs.length = n
  lq : qs.length = n
  hd : ∃ c, rd H R 0 = some (.slice (some ⟨B, 0, none⟩) n c) ∧ n ≤ c
  hB : ∃ cs, H B = some cs
  ptr : ∀ i (h : i < rs.length), rd H B i = some (.pointer (some ⟨rs[i], 0, none⟩))
  row : ∀ i (h : i < rs.length) (h' : i < qs.length), BR H rs[i] qs[i] n (M i)
  out : ∀ a b, n ≤ a → M a b = false
  nd : (R :: B :: (rs ++ qs)).Nodup
  g : gTab ∉ R :: B :: (rs ++ qs)
def RLO (H : Hp) (R : Nat) (O : List Nat) (n : Nat) (M : Nat → Nat → Bool) : Prop := ∃ B rs qs, O = R :: B :: (rs ++ qs) ∧ RL H R B rs qs n M

theorem RL.mod {H H' : Hp} {R B : Nat} {rs qs : List Nat} {n : Nat} {M : Nat → Nat → Bool} {O : List Nat} (h : RL H R B rs qs n M) (hm : Mod O H H') (hd : ∀ b ∈ O, b ∉ R :: B :: (rs ++ qs)) (hg : gTab ∉ O) : RL H' R B rs qs n M := by
  have hR : R ∉ O := fun hb => hd R hb (by simp)
  have hB : B ∉ O := fun hb => hd B hb (by simp)
  obtain ⟨c, h1, h2⟩ := h.hd
  obtain ⟨cs, h3⟩ := h.hB
  refine ⟨h.tz.mod hm hg, h.lim, h.lr, h.lq, ⟨c, hm.rd hR h1, h2⟩, ⟨cs, hm _ hB _ h3⟩, fun i hi => hm.rd hB (h.ptr i hi), fun i hi hi' => (h.row i hi hi').mod hm (fun hb => ?_) (fun hb => ?_) hg, h.out, h.nd, h.g⟩
  · exact hd _ hb (by simp)
  · exact hd _ hb (by simp)
theorem RLO.mod {H H' : Hp} {R : Nat} {n : Nat} {M : Nat → Nat → Bool} {O P : List Nat} (h : RLO H R O n M) (hm : Mod P H H') (hd : ∀ b ∈ P, b ∉ O) (hg : gTab ∉ P) : RLO H' R O n M := by
  obtain ⟨B, rs, qs, rfl, h⟩ := h
  exact ⟨B, rs, qs, rfl, h.mod hm hd hg⟩
theorem RLO.le {H H' : Hp} {R : Nat} {n : Nat} {M : Nat → Nat → Bool} {O : List Nat} (h : RLO H R O n M) (hm : Le H H') : RLO H' R O n M := h.mod (P := []) hm.mod (by simp) (by simp)
theorem RLO.tz {H : Hp} {R : Nat} {n : Nat} {M : Nat → Nat → Bool} {O : List Nat} (h : RLO H R O n M) : Tz H := by obtain ⟨B, rs, qs, rfl, h⟩ := h; exact h.tz
theorem RLO.g {H : Hp} {R : Nat} {n : Nat} {M : Nat → Nat → Bool} {O : List Nat} (h : RLO H R O n M) : gTab ∉ O := by obtain ⟨B, rs, qs, rfl, h⟩ := h; exact h.g
theorem RLO.lim {H : Hp} {R : Nat} {n : Nat} {M : Nat → Nat → Bool} {O : List Nat} (h : RLO H R O n M) : n ≤ 200 := by obtain ⟨B, rs, qs, rfl, h⟩ := h; exact h.lim
theorem RLO.there {H : Hp} {R : Nat} {n : Nat} {M : Nat → Nat → Bool} {O : List Nat} (h : RLO H R O n M) : ∀ b ∈ O, H b ≠ none := by
  obtain ⟨B, rs, qs, rfl, h⟩ := h
  intro b hb
  rcases List.mem_cons.1 hb with rfl | hb
  · obtain ⟨c, h1, _⟩ := h.hd; exact ne_none_of_rd h1
  rcases List.mem_cons.1 hb with rfl | hb
  · obtain ⟨cs, h1⟩ := h.hB; rw [h1]; intro e; cases e
  rcases List.mem_append.1 hb with hb | hb
  · obtain ⟨i, hi, rfl⟩ := List.mem_iff_getElem.1 hb
    exact (h.row i hi (by rw [h.lq, ← h.lr]; exact hi)).hr
  · obtain ⟨i, hi, rfl⟩ := List.mem_iff_getElem.1 hb
    exact (h.row i (by rw [h.lr, ← h.lq]; exact hi) hi).hq
theorem RLO.out {H : Hp} {R : Nat} {n : Nat} {M : Nat → Nat → Bool} {O : List Nat} (h : RLO H R O n M) : ∀ a b, n ≤ a ∨ n ≤ b → M a b = false := by
  obtain ⟨B, rs, qs, rfl, h⟩ := h
  rintro a b (h1 | h1)
  · exact h.out a b h1
  · by_cases ha : n ≤ a
    · exact h.out a b ha
    · exact (h.row a (by rw [h.lr]; omega) (by rw [h.lq]; omega)).out b h1
theorem RL.congr {H : Hp} {R B : Nat} {rs qs : List Nat} {n : Nat} {M M' : Nat → Nat → Bool} (h : RL H R B rs qs n M) (e : ∀ a b, M' a b = M a b) : RL H R B rs qs n M' := by
  have : M' = M := funext fun a => funext fun b => e a b
  rw [this]; exact h
theorem RLO.congr {H : Hp} {R : Nat} {n : Nat} {M M' : Nat → Nat → Bool} {O : List Nat} (h : RLO H R O n M) (e : ∀ a b, M' a b = M a b) : RLO H R O n M' := by
  have : M' = M := funext fun a => funext fun b => e a b
  rw [this]; exact h

/-- A relation made where nothing was is none of what there was. -/
theorem RLO.apart {H : Hp} {R : Nat} {n : Nat} {M : Nat → Nat → Bool} {O P : List Nat} (h : RLO H R O n M) (hP : ∀ b ∈ P, H b = none) : (∀ b ∈ P, b ∉ O) ∧ (∀ b ∈ O, b ∉ P) ∧ gTab ∉ P :=
  ⟨fun b hb hb' => h.there b hb' (hP b hb), fun b hb hb' => h.there b hb (hP b hb'), fun hb => h.tz.there (hP _ hb)⟩

section
variable {H : Hp} {R B : Nat} {rs qs : List Nat} {n : Nat} {M : Nat → Nat → Bool}
/-- A look at row i. -/
theorem RL.at (h : RL H R B rs qs n M) {i : Int} {a : Nat} (hi : i = (a : Int)) (ha : a < n) {F : Option Addr → Prop} (hF : F (some ⟨rs[a]'(by rw [h.lr]; exact ha), 0, none⟩)) :
    NIL (some ⟨R, 0, none⟩) fun b o => ldL (rd H b o) fun xp xl _ => IDX i xl fun k => NIL xp fun b' o' => ldP (rd H b' (o' + k)) F := by
  obtain ⟨c, h1, h2⟩ := h.hd
  refine nil ?_
  refine ldL_i h1 ?_
  refine idxN a hi ha ?_
  refine nil ?_
  exact ldP_i (by rw [Nat.zero_add]; exact h.ptr a (by rw [h.lr]; exact ha)) hF
theorem RL.br (h : RL H R B rs qs n M) {a : Nat} (ha : a < n) : BR H (rs[a]'(by rw [h.lr]; exact ha)) (qs[a]'(by rw [h.lq]; exact ha)) n (M a) := h.row a _ _
/-- Row i has become s. -/
theorem RL.setRow (h : RL H R B rs qs n M) {a : Nat} (ha : a < n) {H' : Hp} {s : Nat → Bool} (hb : BR H' (rs[a]'(by rw [h.lr]; exact ha)) (qs[a]'(by rw [h.lq]; exact ha)) n s) (hm : Mod [qs[a]'(by rw [h.lq]; exact ha)] H H') :
    RL H' R B rs qs n (fun x y => if x = a then s y else M x y) := by
  have hnd := h.nd
  have haq : a < qs.length := by rw [h.lq]; exact ha
  simp only [List.nodup_cons, List.mem_cons, List.mem_append, List.nodup_append] at hnd
  obtain ⟨n1, n2, n3, n4, n5⟩ := hnd
  have hR : R ∉ [qs[a]] := by simp; intro e; exact n1 (.inr (.inr (e ▸ List.getElem_mem haq)))
  have hB : B ∉ [qs[a]] := by simp; intro e; exact n2 (.inr (e ▸ List.getElem_mem haq))
  obtain ⟨c, h1, h2⟩ := h.hd
  obtain ⟨cs, h3⟩ := h.hB
  refine ⟨hb.tz, h.lim, h.lr, h.lq, ⟨c, hm.rd hR h1, h2⟩, ⟨cs, hm _ hB _ h3⟩, fun i hi => hm.rd hB (h.ptr i hi), fun i hi hi' => ?_, fun x y hx => ?_, h.nd, h.g⟩
  · by_cases e : i = a
    · subst e; simpa using hb
    · simp only [if_neg e]
      refine (h.row i hi hi').mod hm (fun hx => ?_) (fun hx => ?_) (by simpa using hb.gq.symm)
      · simp at hx; exact n5 _ (List.getElem_mem hi) _ (List.getElem_mem haq) hx
      · simp at hx
        exact e (nodup_inj n4 hi' haq hx)
  · have : ¬ x = a := by omega
    simp only [if_neg this]; exact h.out x y hx
end
theorem RL.mem {H : Hp} {R B : Nat} {rs qs : List Nat} {n : Nat} {M : Nat → Nat → Bool} (h : RL H R B rs qs n M) {a : Nat} (ha : a < n) : (qs[a]'(by rw [h.lq]; exact ha)) ∈ R :: B :: (rs ++ qs) := by simp

theorem rel_Rel_Len.c {R n : Nat} {M : Nat → Nat → Bool} {O : List Nat} {H : Hp} {K : Int → Hp → Prop} (hu : RLO H R O n M) (hK : K (n : Nat) H) : rel_Rel_Len.C (some ⟨R, 0, none⟩) H K := by
  apply rel_Rel_Len.of
  obtain ⟨B, rs, qs, rfl, h⟩ := hu
  obtain ⟨c, h1, h2⟩ := h.hd
  exact bcd (fun h => by cases h) fun _ => nil (ldL_i h1 hK)
theorem rel_Rel_Len.nil {H : Hp} {K : Int → Hp → Prop} (hK : K 0 H) : rel_Rel_Len.C none H K := by
  apply rel_Rel_Len.of
  exact bcd (fun _ => hK) fun h => absurd rfl h
theorem rel_Rel_there.c {R n : Nat} {M : Nat → Nat → Bool} {O : List Nat} {i : Int} {H : Hp} {K : Bool → Hp → Prop} (hu : RLO H R O n M) (hK : K (decide (0 ≤ i ∧ i < (n : Int))) H) : rel_Rel_there.C (some ⟨R, 0, none⟩) i H K := by
  apply rel_Rel_there.of
  refine bcd (fun h => ?_) fun h => ?_
  · refine rel_Rel_Len.c hu ?_
    have e : decide (0 ≤ i ∧ i < (n : Int)) = decide (i < (n : Int)) := decide_eq_decide.2 ⟨fun g => g.2, fun g => ⟨h, g⟩⟩
    rw [← e]; exact hK
  · rwa [decide_eq_false (fun g => h g.1)] at hK

/-- Is a ahead of b? -/
def hasM (M : Nat → Nat → Bool) (a b : Int) : Bool := decide (0 ≤ a ∧ 0 ≤ b) && M a.toNat b.toNat
theorem hasM_nat {M : Nat → Nat → Bool} {a b : Nat} : hasM M (a : Int) (b : Int) = M a b := by
  have : (0 : Int) ≤ a ∧ (0 : Int) ≤ b := ⟨by omega, by omega⟩
  simp [hasM]
theorem rel_Rel_Has.c {R n : Nat} {M : Nat → Nat → Bool} {O : List Nat} {a b : Int} {H : Hp} {K : Bool → Hp → Prop} (hu : RLO H R O n M) (hK : K (hasM M a b) H) : rel_Rel_Has.C (some ⟨R, 0, none⟩) a b H K := by
  apply rel_Rel_Has.of
  refine rel_Rel_there.c hu ?_
  have hout := hu.out
  refine bcd (fun h => ?_) fun h => ?_
  · obtain ⟨B, rs, qs, rfl, h'⟩ := hu
    obtain ⟨a, rfl⟩ : ∃ k : Nat, a = k := ⟨a.toNat, by omega⟩
    refine h'.at rfl (by omega) ?_
    refine bits_Row_Has.c (h'.br (by omega)) ?_
    have e : hasB (M a) b = hasM M a b := by
      unfold hasB hasM
      by_cases hb : 0 ≤ b
      · simp [hb]
      · simp [hb]
    rw [e]; exact hK
  · have : hasM M a b = false := by
      unfold hasM
      by_cases h0 : 0 ≤ a ∧ 0 ≤ b
      · rw [hout _ _ (.inl (by omega))]; simp
      · simp [h0]
    rwa [this] at hK

/-- A pair more. -/
def addM (M : Nat → Nat → Bool) (n : Nat) (a b : Int) : Nat → Nat → Bool := fun x y => M x y || decide ((x : Int) = a ∧ (y : Int) = b ∧ x < n ∧ y < n)
def addB (M : Nat → Nat → Bool) (n : Nat) (a b : Int) : Bool := decide (0 ≤ a ∧ a < (n : Int) ∧ 0 ≤ b ∧ b < (n : Int)) && !hasM M a b
theorem putRow {M : Nat → Nat → Bool} {n a b : Nat} (ha : a < n) : (fun x y => if x = a then putB (M a) n (b : Int) true y else M x y) = addM M n a b := by
  funext x y
  unfold addM
  by_cases hx : x = a
  · subst hx
    rw [if_pos rfl, putB_nat]
    by_cases hy : y = b ∧ y < n
    · rw [if_pos hy]
      have : (x : Int) = (x : Int) ∧ (y : Int) = (b : Int) ∧ x < n ∧ y < n := ⟨rfl, by omega, ha, hy.2⟩
      simp [this]
    · rw [if_neg hy]
      have : ¬ ((x : Int) = (x : Int) ∧ (y : Int) = (b : Int) ∧ x < n ∧ y < n) := fun g => hy ⟨by omega, g.2.2.2⟩
      rw [decide_eq_false this, Bool.or_false]
  · rw [if_neg hx]
    have : ¬ ((x : Int) = (a : Int) ∧ (y : Int) = (b : Int) ∧ x < n ∧ y < n) := fun g => hx (by omega)
    rw [decide_eq_false this, Bool.or_false]
theorem addM_out {M : Nat → Nat → Bool} {n : Nat} {a b : Int} (h : ¬ (0 ≤ a ∧ a < (n : Int) ∧ 0 ≤ b ∧ b < (n : Int))) : addM M n a b = M := by
  funext x y
  unfold addM
  have : ¬ ((x : Int) = a ∧ (y : Int) = b ∧ x < n ∧ y < n) := fun g => h ⟨by omega, by omega, by omega, by omega⟩
  rw [decide_eq_false this, Bool.or_false]
theorem addM_has {M : Nat → Nat → Bool} {n : Nat} {a b : Int} (h : hasM M a b = true) : addM M n a b = M := by
  funext x y
  unfold addM
  by_cases g : (x : Int) = a ∧ (y : Int) = b ∧ x < n ∧ y < n
  · have : M x y = true := by rw [← g.1, ← g.2.1, hasM_nat] at h; exact h
    simp [this]
  · rw [decide_eq_false g, Bool.or_false]

theorem rel_Rel_Add.c {R n : Nat} {M : Nat → Nat → Bool} {O : List Nat} {a b : Int} {H : Hp} {K : Bool → Hp → Prop} (hu : RLO H R O n M) (hK : ∀ H', RLO H' R O n (addM M n a b) → Mod O H H' → K (addB M n a b) H') : rel_Rel_Add.C (some ⟨R, 0, none⟩) a b H K := by
  apply rel_Rel_Add.of
  have no : addB M n a b = false → addM M n a b = M → K false H := fun h1 h2 => by rw [← h1]; exact hK H (by rw [h2]; exact hu) .refl
  refine rel_Rel_there.c hu ?_
  refine bcn (fun h => no ?_ ?_) (fun h1 => ?_)
  · have := of_decide_eq_false h
    unfold addB; rw [decide_eq_false (fun g => this ⟨g.1, g.2.1⟩), Bool.false_and]
  · have := of_decide_eq_false h
    exact addM_out fun g => this ⟨g.1, g.2.1⟩
  refine rel_Rel_there.c hu ?_
  refine bcn (fun h => no ?_ ?_) (fun h2 => ?_)
  · have := of_decide_eq_false h
    unfold addB; rw [decide_eq_false (fun g => this g.2.2), Bool.false_and]
  · have := of_decide_eq_false h
    exact addM_out fun g => this g.2.2
  have h1 := of_decide_eq_true h1
  have h2 := of_decide_eq_true h2
  refine rel_Rel_Has.c hu ?_
  refine bc_i (fun h => no ?_ (addM_has h)) (fun h => ?_)
  · unfold addB; rw [h]; simp
  obtain ⟨B, rs, qs, rfl, h'⟩ := hu
  obtain ⟨a, rfl⟩ : ∃ k : Nat, a = k := ⟨a.toNat, by omega⟩
  obtain ⟨b, rfl⟩ : ∃ k : Nat, b = k := ⟨b.toNat, by omega⟩
  have ha : a < n := by omega
  refine h'.at rfl ha ?_
  refine bits_Row_Put.c (h'.br ha) fun H1 u1 m1 _ => ?_
  have e : addB M n a b = true := by
    unfold addB; rw [decide_eq_true ⟨h1.1, h1.2, h2.1, h2.2⟩, h]; rfl
  rw [← e]
  have u2 := h'.setRow ha u1 m1
  rw [putRow ha] at u2
  exact hK _ ⟨B, rs, qs, rfl, u2⟩ (m1.mono fun b' hb' => by simp at hb'; subst hb'; exact h'.mem ha)
end Go.Proofs.YteijgmmjgbgffaaDoor
