/- Contracts. -/
import Derived.Test.YteijgmmjgbgffaaDoorB1
namespace Go.Proofs.YteijgmmjgbgffaaDoor
open Go.V
/-! ### Through the bits that are on -/
theorem each_rule {cap r q n : Nat} {s : Nat → Bool} {H : Hp} {G : Int → Hp → (Al → Hp → Prop) → Prop} {K : Al → Hp → Prop} (I : Nat → Hp → Prop) (hb : BR H r q n s) (hc : rd H cap 0 = some (.pointer (some ⟨r, 0, none⟩))) (h0 : I 0 H)
    (hfr : ∀ i Hx, I i Hx → Tz Hx ∧ ∀ j, i ≤ 64 * j → j < (n + 63) / 64 → rd Hx q j = rd H q j)
    (hskip : ∀ i Hx, s i = false → I i Hx → I (i + 1) Hx)
    (hstep : ∀ i Hx Kb, i < n → s i = true → I i Hx → (∀ H', I (i + 1) H' → Kb Al.on H') → (∀ j up H', K (Al.off j up) H' → Kb (Al.off j up) H') → G (i : Nat) Hx Kb)
    (hend : ∀ i Hx, n ≤ i → I i Hx → K Al.on Hx) : bits_Row_Each_1.I cap H G K := by
  apply bits_Row_Each_1.of
  obtain ⟨w, c, g1, g2, g3, g4, g5, g6, g7, g8⟩ := hb.row
  have hn := hb.lim
  have skips : ∀ d i Hx, (∀ j, i ≤ j → j < i + d → s j = false) → I i Hx → I (i + d) Hx := by
    intro d
    induction d with
    | zero => intro i Hx _ h; exact h
    | succ d ih => intro i Hx h hI; exact hskip _ _ (h (i + d) (by omega) (by omega)) (ih i Hx (fun j a b => h j a (by omega)) hI)
  refine ldP_i hc (bcd (fun h => by cases h) fun _ => ?_)
  refine ldP_i hc (nil ?_)
  refine ldL_i (by rw [Nat.zero_add]; exact g5) ?_
  refine ⟨fun t Hx => ∃ k : Nat, t = k ∧ k ≤ w.length ∧ I (64 * k) Hx, fun t _ => (w.length - t).toNat, ⟨0, rfl, by omega, h0⟩, ?_⟩
  rintro t H1 ⟨k, rfl, hk, hI⟩
  refine bcd (fun h => ?_) (fun h => ?_)
  · have hk' : k < w.length := by omega
    have hwk := g1 _ (List.getElem_mem hk')
    have hsk : ∀ b, b < 64 → s (64 * k + b) = w[k].testBit b := fun b hb' => by
      rw [g8, wbit, show (64 * k + b) / 64 = k by omega, show (64 * k + b) % 64 = b by omega]
      simp [List.getD, hk']
    refine idx hk' ?_
    refine nil ?_
    refine ldI_i (by rw [Nat.zero_add, (hfr _ _ hI).2 k (Nat.le_refl _) (by omega)]; exact g7 _ hk') ?_
    refine ⟨fun v Hx => ∃ i x : Nat, v = x ∧ 64 * k ≤ i ∧ i ≤ 64 * (k + 1) ∧ I i Hx ∧ x < 18446744073709551616 ∧ ∀ b, x.testBit b = (decide (i ≤ 64 * k + b) && w[k].testBit b), fun v _ => v.toNat,
      ⟨64 * k, w[k], rfl, Nat.le_refl _, by omega, hI, hwk, fun b => by simp⟩, ?_⟩
    rintro v H2 ⟨i, x, rfl, hi1, hi2, hI2, hx, hbit⟩
    refine bcd (fun hne => ?_) (fun heq => ?_)
    · have hx0 : x ≠ 0 := by omega
      obtain ⟨c1, c2, c3, c4, c5⟩ := ctz_spec hx0 hx
      refine chk (by omega) ?_
      refine math_bits_TrailingZeros64.c (hfr _ _ hI2).1 hx0 hx ?_
      refine chk (by omega) ?_
      generalize Lib.ctz 64 x = z at *
      have hz := hbit z
      rw [c2] at hz
      have hz' := hz.symm
      rw [Bool.and_eq_true, decide_eq_true_eq] at hz'
      have hse : s (64 * k + z) = true := by rw [hsk z c1]; exact hz'.2
      have hen : 64 * k + z < n := by
        apply Nat.lt_of_not_le
        intro h; rw [hb.out _ h] at hse; cases hse
      have hIe : I (64 * k + z) H2 := by
        have := skips (64 * k + z - i) i H2 (fun j a b => by
          have e : j = 64 * k + (j - 64 * k) := by omega
          have h1 := c3 (j - 64 * k) (by omega)
          rw [hbit, Bool.and_eq_false_imp] at h1
          rw [e, hsk _ (by omega)]
          exact h1 (decide_eq_true (by omega))) hI2
        rwa [show i + (64 * k + z - i) = 64 * k + z by omega] at this
      rw [show ((k : Int) * 64 + (z : Int)) = ((64 * k + z : Nat) : Int) by omega]
      refine hstep _ H2 _ hen hse hIe (fun H' hI' => alOn ?_) (fun j up H' h => h)
      have e1 : IntKind.wrap .u64 ((x : Int) - 1) = ((x - 1 : Nat) : Int) := by rw [u64w (by omega)]; omega
      rw [e1, iand_nat hx (by omega)]
      refine ⟨⟨64 * k + z + 1, x &&& (x - 1), rfl, by omega, by omega, hI', by omega, fun b => ?_⟩, by dsimp only; omega⟩
      rw [c4, hbit]
      by_cases h1 : z < b
      · have : i ≤ 64 * k + b := by omega
        have h2 : 64 * k + z + 1 ≤ 64 * k + b := by omega
        simp [h1, this, h2]
      · have h2 : ¬ 64 * k + z + 1 ≤ 64 * k + b := by omega
        simp [h1, h2]
    · have hx0 : x = 0 := by omega
      subst hx0
      have := skips (64 * (k + 1) - i) i H2 (fun j a b => by
        have e : j = 64 * k + (j - 64 * k) := by omega
        have h1 := hbit (j - 64 * k)
        rw [Nat.zero_testBit] at h1
        have h2 := h1.symm
        rw [Bool.and_eq_false_imp] at h2
        rw [e, hsk _ (by omega)]
        exact h2 (decide_eq_true (by omega))) hI2
      rw [show i + (64 * (k + 1) - i) = 64 * (k + 1) by omega] at this
      exact chk (by omega) ⟨⟨k + 1, by omega, by omega, this⟩, by first | omega | (dsimp only; omega)⟩
  · obtain rfl : k = w.length := by omega
    exact hend _ _ (by omega) hI
theorem each_nil {cap : Nat} {H : Hp} {G : Int → Hp → (Al → Hp → Prop) → Prop} {K : Al → Hp → Prop} (hc : rd H cap 0 = some (.pointer none)) (hK : K .on H) : bits_Row_Each_1.I cap H G K := by
  apply bits_Row_Each_1.of
  exact ldP_i hc (bcd (fun _ => hK) fun h => absurd rfl h)

theorem bits_Row_Each.c {p : Option Addr} {H : Hp} {K : Value → Hp → Prop} (hK : ∀ cap H', H cap = none → rd H' cap 0 = some (.pointer p) → Le H H' → K (.func (.func bits_Row_Each_1.num) ⟨[]⟩ ⟨[.pointer (some ⟨cap, 0, none⟩)]⟩) H') : bits_Row_Each.C p H K := by
  apply bits_Row_Each.of
  intro cap hcap
  exact hK cap _ hcap (by rw [rd_upd_self]; rfl) (.upd hcap)

/-- The bits that are on below i. -/
def els (s : Nat → Bool) (i : Nat) : List Nat := (List.range i).filter s
theorem els_on {s : Nat → Bool} {i : Nat} (h : s i = true) : els s (i + 1) = els s i ++ [i] := by unfold els; rw [List.range_succ, List.filter_append]; simp [h]
theorem els_off {s : Nat → Bool} {i : Nat} (h : s i = false) : els s (i + 1) = els s i := by unfold els; rw [List.range_succ, List.filter_append]; simp [h]
theorem els_end {s : Nat → Bool} {n i : Nat} (h : ∀ j, n ≤ j → s j = false) (hi : n ≤ i) : els s i = els s n := by
  induction i with
  | zero => have : n = 0 := by omega
            rw [this]
  | succ i ih =>
    by_cases e : n = i + 1
    · rw [e]
    · rw [els_off (h i (by omega)), ih (by omega)]
theorem els_len_le (s : Nat → Bool) (i : Nat) : (els s i).length ≤ i := by unfold els; have := List.length_filter_le s (List.range i); simpa using this
theorem els_mem {s : Nat → Bool} {i x : Nat} : x ∈ els s i ↔ x < i ∧ s x = true := by unfold els; simp

theorem eq_of_le {H H' : Hp} (h : Le H H') {b : Nat} (hb : H b ≠ none) : H' b = H b := by
  cases e : H b with
  | none => exact absurd e hb
  | some c => exact h b c e
theorem eq_of_mod {H H' : Hp} {O : List Nat} (h : Mod O H H') {b : Nat} (ho : b ∉ O) (hb : H b ≠ none) : H' b = H b := by
  cases e : H b with
  | none => exact absurd e hb
  | some c => exact h b ho c e

/-- Joined as far as i. -/
def orB (s t : Nat → Bool) (n i : Nat) : Nat → Bool := fun j => s j || (decide (j < i ∧ j < n) && t j)
def grewB (s t : Nat → Bool) (n i : Nat) : Bool := (List.range i).any fun j => decide (j < n) && t j && !s j
theorem orB_skip {s t : Nat → Bool} {n i : Nat} (h : i < n → t i = true → s i = true) : orB s t n (i + 1) = orB s t n i := by
  funext j
  unfold orB
  by_cases e : j = i
  · subst e
    by_cases hn : j < n
    · cases hs : s j
      · cases ht : t j
        · simp
        · rw [h hn ht] at hs; cases hs
      · simp
    · simp [hn]
  · have : (j < i + 1 ∧ j < n) ↔ (j < i ∧ j < n) := by omega
    rw [decide_eq_decide.2 this]
theorem orB_put {s t : Nat → Bool} {n i : Nat} (hi : i < n) (ht : t i = true) : putB (orB s t n i) n (i : Int) true = orB s t n (i + 1) := by
  funext j
  unfold putB orB
  by_cases e : j = i
  · subst e; rw [if_pos ⟨rfl, hi⟩]; simp [ht, hi]
  · rw [if_neg (by omega)]
    have : (j < i + 1 ∧ j < n) ↔ (j < i ∧ j < n) := by omega
    rw [decide_eq_decide.2 this]
theorem grewB_succ {s t : Nat → Bool} {n i : Nat} : grewB s t n (i + 1) = (grewB s t n i || (decide (i < n) && t i && !s i)) := by unfold grewB; rw [List.range_succ, List.any_append]; simp

theorem bits_Row_Or.c {r q n r' q' m : Nat} {s t : Nat → Bool} {H : Hp} {K : Bool → Hp → Prop} (hu : BR H r q n s) (hv : BR H r' q' m t) (hq : q' ∉ [q])
    (hK : ∀ H', BR H' r q n (orB s t n n) → Mod [q] H H' → K (grewB s t n n) H') : bits_Row_Or.C (some ⟨r, 0, none⟩) (some ⟨r', 0, none⟩) H K := by
  apply bits_Row_Or.of
  intro b3 h3 b5 h5
  have le1 : Le H (upd H b3 [.pointer (some ⟨r, 0, none⟩)]) := .upd h3
  have n35 : b3 ≠ b5 := fun e => by subst e; simp [upd] at h5
  have r5 : rd (upd (upd H b3 [.pointer (some ⟨r, 0, none⟩)]) b5 [.bool false]) b5 0 = some (.bool false) := by rw [rd_upd_self]; rfl
  have h5' := none_of_le le1 h5
  refine st r5 ?_
  have le2 : Le H (wr (upd (upd H b3 [.pointer (some ⟨r, 0, none⟩)]) b5 [.bool false]) b5 0 (.bool false)) := (le1.trans (.upd h5)).wr h5'
  have r5' : rd (wr (upd (upd H b3 [.pointer (some ⟨r, 0, none⟩)]) b5 [.bool false]) b5 0 (.bool false)) b5 0 = some (.bool false) := rd_wr_self r5
  have r3' : rd (wr (upd (upd H b3 [.pointer (some ⟨r, 0, none⟩)]) b5 [.bool false]) b5 0 (.bool false)) b3 0 = some (.pointer (some ⟨r, 0, none⟩)) := by rw [rd_wr_ne n35, rd_upd_ne n35, rd_upd_self]; rfl
  generalize wr (upd (upd H b3 [.pointer (some ⟨r, 0, none⟩)]) b5 [.bool false]) b5 0 (.bool false) = H2 at *
  refine bits_Row_Each.c fun cap H3 hcap hrc le3 => ?_
  have le23 := le2.trans le3
  have hg : gTab ∉ [q] := by simpa using hu.gq.symm
  have b3q : b3 ∉ [q] := by simpa using (ne_of_none hu.hq h3).symm
  have b5q : b5 ∉ [q] := by simpa using (ne_of_none hu.hq h5').symm
  show bits_Row_Each_1.I cap H3 _ _
  refine each_rule (fun i Hx => BR Hx r q n (orB s t n i) ∧ Mod [q] H Hx ∧ rd Hx b3 0 = some (.pointer (some ⟨r, 0, none⟩)) ∧ rd Hx b5 0 = some (.bool (grewB s t n i))) (hv.le le23) hrc
    ⟨(hu.le le23).congr fun j => by simp [orB], le23.mod, le3.rd r3', by simpa [grewB] using le3.rd r5'⟩ ?_ ?_ ?_ ?_
  · rintro i Hx ⟨u1, m1, h1, h2⟩
    refine ⟨u1.tz, fun j _ _ => ?_⟩
    rw [rd_eq (eq_of_mod m1 hq hv.hq), rd_eq (eq_of_le le23 hv.hq)]
  · rintro i Hx hs ⟨u1, m1, h1, h2⟩
    refine ⟨u1.congr fun j => by rw [orB_skip (fun _ h => by rw [hs] at h; cases h)], m1, h1, ?_⟩
    rw [grewB_succ, hs]; simpa using h2
  · rintro i Hx Kb hi hs ⟨u1, m1, h1, h2⟩ hon _
    have no : (i < n → s i = true) → Kb .on Hx := fun h => hon Hx ⟨u1.congr fun j => by rw [orB_skip (fun a _ => h a)], m1, h1, by
      rw [grewB_succ]
      have : (decide (i < n) && t i && !s i) = false := by
        by_cases hin : i < n
        · simp [h hin]
        · simp [hin]
      rw [this, Bool.or_false]; exact h2⟩
    refine ldP_i h1 ?_
    refine bits_Row_there.c u1 ?_
    refine bcd (fun hin => ?_) (fun hin => bcF (no fun h => absurd ⟨by omega, by omega⟩ hin))
    have hin' : i < n := by omega
    refine ldP_i h1 ?_
    refine bits_Row_Has.c u1 ?_
    rw [hasB_nat]
    have e0 : orB s t n i i = s i := by simp [orB]
    rw [e0]
    refine bcn (fun hsi => ?_) (fun hsi => no fun _ => hsi)
    refine ldP_i h1 ?_
    refine bits_Row_Put.c u1 fun H4 u4 m4 _ => ?_
    rw [orB_put hin' hs] at u4
    have h2' := m4.rd b5q h2
    have m5 : Mod [b5] H4 (wr H4 b5 0 (.bool true)) := Mod.refl.wr (.inl (by simp))
    have a1 : r ∉ [b5] := by simpa using ne_of_none hu.hr h5'
    have a2 : q ∉ [b5] := by simpa using ne_of_none hu.hq h5'
    have a3 : gTab ∉ [b5] := by simpa using ne_of_none hu.tz.there h5'
    refine st h2' (hon _ ⟨u4.mod m5 a1 a2 a3, (m1.trans m4).wr (.inr h5'), ?_, ?_⟩)
    · rw [rd_wr_ne n35]; exact m4.rd b3q h1
    · rw [rd_wr_self h2', grewB_succ, hs, hsi]; simp [hin']
  · rintro i Hx hi ⟨u1, m1, h1, h2⟩
    have e1 : orB s t n i = orB s t n n := by
      funext j
      unfold orB
      by_cases hj : j < n
      · by_cases hji : j < i
        · simp [hj, hji]
        · have := hv.out j (by omega); simp [this]
      · simp [hj]
    have e2 : ∀ k, grewB s t n (n + k) = grewB s t n n := fun k => by
      induction k with
      | zero => rfl
      | succ k ih => rw [← Nat.add_assoc, grewB_succ, ih, decide_eq_false (show ¬ n + k < n by omega)]; simp
    have e3 : grewB s t n i = grewB s t n n := by
      rcases Nat.le_total n i with h | h
      · have := e2 (i - n); rwa [show n + (i - n) = i by omega] at this
      · have : ∀ k, i + k ≤ n → grewB s t n (i + k) = grewB s t n i := fun k => by
          induction k with
          | zero => intro _; rfl
          | succ k ih => intro hk; rw [← Nat.add_assoc, grewB_succ, ih (by omega), hv.out (i + k) (by omega)]; simp
        have := this (n - i) (by omega)
        rw [show i + (n - i) = n by omega] at this
        exact this.symm
    rw [e1] at u1
    rw [e3] at h2
    exact alOn (ldB_i h2 (hK Hx u1 m1))

theorem bits_Row_Or.nil {r q n : Nat} {s : Nat → Bool} {H : Hp} {K : Bool → Hp → Prop} (_ : BR H r q n s) (hK : ∀ H', Le H H' → K false H') : bits_Row_Or.C (some ⟨r, 0, none⟩) none H K := by
  apply bits_Row_Or.of
  intro b3 h3 b5 h5
  have le1 : Le H (upd H b3 [.pointer (some ⟨r, 0, none⟩)]) := .upd h3
  have r5 : rd (upd (upd H b3 [.pointer (some ⟨r, 0, none⟩)]) b5 [.bool false]) b5 0 = some (.bool false) := by rw [rd_upd_self]; rfl
  have h5' := none_of_le le1 h5
  refine st r5 ?_
  have le2 : Le H (wr (upd (upd H b3 [.pointer (some ⟨r, 0, none⟩)]) b5 [.bool false]) b5 0 (.bool false)) := (le1.trans (.upd h5)).wr h5'
  have r5' : rd (wr (upd (upd H b3 [.pointer (some ⟨r, 0, none⟩)]) b5 [.bool false]) b5 0 (.bool false)) b5 0 = some (.bool false) := rd_wr_self r5
  generalize wr (upd (upd H b3 [.pointer (some ⟨r, 0, none⟩)]) b5 [.bool false]) b5 0 (.bool false) = H2 at *
  refine bits_Row_Each.c fun cap H3 hcap hrc le3 => ?_
  show bits_Row_Each_1.I cap H3 _ _
  exact each_nil hrc (alOn (ldB_i (le3.rd r5') (hK H3 (le2.trans le3))))

/-- With itself nothing comes of it. -/
theorem bits_Row_Or.self {r q n : Nat} {s : Nat → Bool} {H : Hp} {K : Bool → Hp → Prop} (hu : BR H r q n s) (hK : ∀ H', Le H H' → K false H') : bits_Row_Or.C (some ⟨r, 0, none⟩) (some ⟨r, 0, none⟩) H K := by
  apply bits_Row_Or.of
  intro b3 h3 b5 h5
  have le1 : Le H (upd H b3 [.pointer (some ⟨r, 0, none⟩)]) := .upd h3
  have n35 : b3 ≠ b5 := fun e => by subst e; simp [upd] at h5
  have r5 : rd (upd (upd H b3 [.pointer (some ⟨r, 0, none⟩)]) b5 [.bool false]) b5 0 = some (.bool false) := by rw [rd_upd_self]; rfl
  have h5' := none_of_le le1 h5
  refine st r5 ?_
  have le2 : Le H (wr (upd (upd H b3 [.pointer (some ⟨r, 0, none⟩)]) b5 [.bool false]) b5 0 (.bool false)) := (le1.trans (.upd h5)).wr h5'
  have r5' : rd (wr (upd (upd H b3 [.pointer (some ⟨r, 0, none⟩)]) b5 [.bool false]) b5 0 (.bool false)) b5 0 = some (.bool false) := rd_wr_self r5
  have r3' : rd (wr (upd (upd H b3 [.pointer (some ⟨r, 0, none⟩)]) b5 [.bool false]) b5 0 (.bool false)) b3 0 = some (.pointer (some ⟨r, 0, none⟩)) := by rw [rd_wr_ne n35, rd_upd_ne n35, rd_upd_self]; rfl
  generalize wr (upd (upd H b3 [.pointer (some ⟨r, 0, none⟩)]) b5 [.bool false]) b5 0 (.bool false) = H2 at *
  refine bits_Row_Each.c fun cap H3 hcap hrc le3 => ?_
  have le23 := le2.trans le3
  have u3 := hu.le le23
  have r5'' := le3.rd r5'
  have r3'' := le3.rd r3'
  show bits_Row_Each_1.I cap H3 _ _
  refine each_rule (fun i Hx => H3 = Hx) u3 hrc rfl ?_ ?_ ?_ ?_
  · rintro i _ rfl; exact ⟨u3.tz, fun _ _ _ => rfl⟩
  · rintro i _ _ rfl; rfl
  · rintro i _ Kb hi hs rfl hon _
    refine ldP_i r3'' ?_
    refine bits_Row_there.c u3 ?_
    refine bcd (fun hin => ?_) (fun hin => bcF (hon _ rfl))
    refine ldP_i r3'' ?_
    refine bits_Row_Has.c u3 ?_
    rw [hasB_nat, hs]
    exact bcF (hon _ rfl)
  · rintro i _ hi rfl
    exact alOn (ldB_i r5'' (hK _ le23))

/-- Cut as far as i. -/
def andB (s t : Nat → Bool) (i : Nat) : Nat → Bool := fun j => s j && (decide (i ≤ j) || t j)
/-- Alike below n. -/
def sameB (s t : Nat → Bool) (n : Nat) : Bool := (List.range n).all fun i => s i == t i
theorem sameB_iff {s t : Nat → Bool} {n : Nat} : sameB s t n = true ↔ ∀ i, i < n → s i = t i := by unfold sameB; simp
theorem bits_Row_Same.c {r q n r' q' m : Nat} {s t : Nat → Bool} {H : Hp} {K : Bool → Hp → Prop} (hu : BR H r q n s) (hv : BR H r' q' m t) (hK : K (decide (n = m) && sameB s t n) H) : bits_Row_Same.C (some ⟨r, 0, none⟩) (some ⟨r', 0, none⟩) H K := by
  apply bits_Row_Same.of
  have hn := hu.lim
  refine bits_Row_Len.c hu (bits_Row_Len.c hv ?_)
  refine bcd (fun h => ?_) (fun h => ?_)
  · rwa [decide_eq_false (show ¬ n = m by omega), Bool.false_and] at hK
  · have e : n = m := by omega
    rw [decide_eq_true e, Bool.true_and] at hK
    refine bits_Row_Len.c hu ?_
    refine ⟨fun i Hx => ∃ i' : Nat, i = i' ∧ i' ≤ n ∧ H = Hx ∧ ∀ j, j < i' → s j = t j, fun i _ => (n - i).toNat, ⟨0, rfl, by omega, rfl, fun j h => by omega⟩, ?_⟩
    rintro i _ ⟨i, rfl, hi, rfl, hs⟩
    refine bcd (fun h => ?_) (fun h => ?_)
    · refine bits_Row_Has.c hu (bits_Row_Has.c hv ?_)
      rw [hasB_nat, hasB_nat]
      refine bcd (fun h' => ?_) (fun h' => ?_)
      · have : sameB s t n = false := by
          cases e : sameB s t n with
          | false => rfl
          | true => exact absurd (sameB_iff.1 e i (by omega)) h'
        rwa [this] at hK
      · rw [Decidable.not_not] at h'
        exact chk (by omega) ⟨⟨i + 1, by omega, by omega, rfl, fun j hj => by
          by_cases e : j = i
          · subst e; exact h'
          · exact hs j (by omega)⟩, by first | omega | (dsimp only; omega)⟩
    · have : sameB s t n = true := sameB_iff.2 fun j hj => hs j (by omega)
      rwa [this] at hK
theorem bits_Row_Same.nil {r q : Nat} {s : Nat → Bool} {H : Hp} {K : Bool → Hp → Prop} (hu : BR H r q 0 s) (hK : K true H) : bits_Row_Same.C (some ⟨r, 0, none⟩) none H K := by
  apply bits_Row_Same.of
  refine bits_Row_Len.c hu (bits_Row_Len.nil ?_)
  refine bcd (fun h => absurd rfl h) (fun _ => ?_)
  refine bits_Row_Len.c hu ?_
  refine ⟨fun i Hx => H = Hx ∧ 0 ≤ i, fun _ _ => 0, ⟨rfl, Int.le_refl _⟩, ?_⟩
  rintro i _ ⟨rfl, h0⟩
  exact bcd (fun h => absurd h (by omega)) (fun _ => hK)

/-- A new row is made where it is none of what there was. -/
theorem BR.new {H H' : Hp} {r q n r' q' : Nat} {s : Nat → Bool} (hu : BR H r q n s) (hr : H r' = none) (hq : H q' = none) (_ : Le H H') : r ∉ [q'] ∧ q ∉ [q'] ∧ r' ∉ [q] ∧ q' ∉ [q] ∧ gTab ∉ [q'] :=
  ⟨by simpa using ne_of_none hu.hr hq, by simpa using ne_of_none hu.hq hq, by simpa using (ne_of_none hu.hq hr).symm, by simpa using (ne_of_none hu.hq hq).symm, by simpa using ne_of_none hu.tz.there hq⟩
theorem none1 {H : Hp} {q : Nat} (h : H q = none) : ∀ b ∈ [q], H b = none := fun b hb => by simp at hb; subst hb; exact h

theorem putB_nat {s : Nat → Bool} {n i j : Nat} {on : Bool} : putB s n (i : Int) on j = if j = i ∧ j < n then on else s j := by
  unfold putB
  by_cases h : j = i
  · subst h; simp
  · rw [if_neg (by omega), if_neg (fun g => h g.1)]
end Go.Proofs.YteijgmmjgbgffaaDoor
