/- Contracts. -/
import Derived.Test.YteijgmmjgbgffaaDoorO2
namespace Go.Proofs.YteijgmmjgbgffaaDoor
open Go.V
theorem centoref2_Rel_one.c {m n : Nat} {M : Nat → Nat → Bool} {O : List Nat} {i j : Int} {a b : Nat} {H : Hp} {K : Bool → Hp → Prop} (hu : RFO H m O n M) (hi : i = (a : Int)) (ha : a < n) (hj : j = (b : Int)) (hb : b < n) (hK : K (oneM M a b) H) :
    centoref2_Rel_one.C (some ⟨m, 0, none⟩) i j H K := by
  apply centoref2_Rel_one.of
  refine bcd (fun h => ?_) fun h => ?_
  · have e : oneM M a b = true := oneM_iff.2 (.inl (by omega))
    rwa [e] at hK
  · have hne : ¬ a = b := by omega
    refine hu.get hi ha hj hb (bc_i (fun h1 => hu.get hj hb hi ha ?_) (fun h1 => ?_))
    · have e : oneM M a b = M b a := by unfold oneM; simp [hne, h1]
      rwa [e] at hK
    · have e : oneM M a b = false := by unfold oneM; simp [hne, h1]
      rwa [e] at hK

theorem centoref2_Rel_Circles.c {m n : Nat} {M : Nat → Nat → Bool} {O : List Nat} {H : Hp} {K : Option Addr → Nat → Nat → Hp → Prop} (hu : RFO H m O n M)
    (hK : ∀ p l cc H', Rw H H' p l cc (crc M n) → Le H H' → K p l cc H') : centoref2_Rel_Circles.C (some ⟨m, 0, none⟩) H K := by
  apply centoref2_Rel_Circles.of
  have hlim := hu.lim
  refine ⟨fun lp ll lc a Hx => ∃ a' : Nat, a = a' ∧ a' ≤ n ∧ Le H Hx ∧ Rw H Hx lp ll lc (crcT M n a'), fun _ _ _ a _ => (n - a).toNat, ⟨0, rfl, by omega, .refl _, Rw.none⟩, ?_⟩
  rintro lp ll lc a Hx ⟨a, rfl, ha, le1, hR⟩
  have hux := hu.le le1
  refine hux.len ?_
  refine bcd (fun h => ?_) (fun h => ?_)
  · have han : a < n := by omega
    refine ⟨fun f b Hy => ∃ b' : Nat, b = b' ∧ b' ≤ a ∧ Hx = Hy ∧ f = (List.range b').all (fun b => !oneM M a b), fun _ b _ => (a - b).toNat, ⟨0, rfl, by omega, rfl, rfl⟩, ?_⟩
    rintro f b _ ⟨b, rfl, hb, rfl, hf⟩
    have all_succ : (List.range (b + 1)).all (fun b => !oneM M a b) = (f && !oneM M a b) := by rw [List.range_succ, List.all_append, hf]; simp
    refine bcd (fun h => ?_) (fun h => ?_)
    · have hba : b < a := by omega
      refine bc_i (fun h1 => ?_) (fun h1 => ?_)
      · refine centoref2_Rel_one.c hux rfl han rfl (by omega) ?_
        exact chk (by omega) ⟨⟨b + 1, by omega, by omega, rfl, by rw [all_succ, h1]; simp⟩, by first | omega | (dsimp only; omega)⟩
      · exact chk (by omega) ⟨⟨b + 1, by omega, by omega, rfl, by rw [all_succ, h1]; simp⟩, by first | omega | (dsimp only; omega)⟩
    · obtain rfl : b = a := by omega
      have e : f = fstM M b := hf
      rw [e]
      refine bcn (fun h1 => ?_) (fun h1 => ?_)
      · exact chk (by omega) ⟨⟨b + 1, by omega, by omega, le1, by rw [crcT_off h1]; exact hR⟩, by first | omega | (dsimp only; omega)⟩
      · refine ⟨fun cp cl cc i Hy => ∃ i' : Nat, i = i' ∧ b ≤ i' ∧ i' ≤ n ∧ Le Hx Hy ∧ Buf 1 Hx Hy cp cl cc ((els (fun x => decide (b ≤ x) && oneM M b x) i').map iv), fun _ _ _ i _ => (n - i).toNat, ⟨b, rfl, by omega, by omega, .refl _, ?_⟩, ?_⟩
        · have : els (fun x => decide (b ≤ x) && oneM M b x) b = [] := by
            unfold els; rw [List.filter_eq_nil_iff]; intro x hx; simp at hx ⊢; intro; omega
          rw [this]; exact Buf.none
        · rintro cp cl cc i Hy ⟨i, rfl, hbi, hin, le2, hB⟩
          have huy := hux.le le2
          have hcl := hB.1
          have hel := els_len_le (fun x => decide (b ≤ x) && oneM M b x) i
          simp only [List.length_map, Nat.mul_one] at hcl
          refine huy.len ?_
          refine bcd (fun h => ?_) (fun h => ?_)
          · have hi : i < n := by omega
            refine centoref2_Rel_one.c huy rfl han rfl hi ?_
            refine bc_i (fun h2 => ?_) (fun h2 => ?_)
            · refine hB.pushM rfl (by decide) rfl (by decide) rfl rfl (by simp [te_int]; omega) (fun p' c' H' hB' _ hm => ?_) le2
              refine chk (by omega) ⟨⟨i + 1, by omega, by omega, by omega, hm.le le2 fun x hx => hB.fr x 0 (blkL_mem hB.zero hx), ?_⟩, by first | omega | (dsimp only; omega)⟩
              rw [els_on (by simp [hbi, h2])]; simpa [iv] using hB'
            · exact chk (by omega) ⟨⟨i + 1, by omega, by omega, by omega, le2, by rw [els_off (by simp [h2])]; exact hB⟩, by first | omega | (dsimp only; omega)⟩
          · obtain rfl : i = n := by omega
            have hl := hR.len
            have hcl' := crcT_len (M := M) (n := i) (t := b)
            refine (hR.le le2).push (le1.trans le2).was hB.sl (fun x o e => none_of_le le1 (hB.fr x o e)) (fun x hx => hB.there (blkL_mem hB.zero hx)) hB.pt (fun x o o' e e' => ?_) rfl rfl (by decide) (by simp [te_sl_int]; omega) rfl (fun p' c' H' hR' hp' m' => ?_)
            · obtain ⟨hs', _, hB', _⟩ := hR
              exact hB'.there e (hB.fr x o' e')
            · refine chk (by omega) ⟨⟨b + 1, by omega, by omega, m'.le (le1.trans le2) fun x hx => ?_, by rw [crcT_on h1]; exact hR'⟩, by first | omega | (dsimp only; omega)⟩
              obtain ⟨hs', _, hB', _⟩ := hR
              exact hB'.fr x 0 (blkL_mem hB'.zero hx)
  · obtain rfl : a = n := by omega
    exact hK _ _ _ _ hR le1

/-- The first of x's class, the class's place. -/
def hdOf (M : Nat → Nat → Bool) (x : Nat) : Nat := ((List.range (x + 1)).find? fun a => fstM M a && oneM M a x).getD 0
theorem hdOf_spec {M : Nat → Nat → Bool} (hT : Tr M) (x : Nat) : hdOf M x ≤ x ∧ fstM M (hdOf M x) = true ∧ oneM M (hdOf M x) x = true := by
  obtain ⟨a, h1, h2, h3⟩ := first_of hT x
  have : ∃ y, (List.range (x + 1)).find? (fun a => fstM M a && oneM M a x) = some y := by
    cases e : (List.range (x + 1)).find? (fun a => fstM M a && oneM M a x) with
    | some y => exact ⟨y, rfl⟩
    | none =>
      have := List.find?_eq_none.1 e a (by simp; omega)
      simp [h2, h3] at this
  obtain ⟨y, hy⟩ := this
  have h4 := List.find?_some hy
  have h5 := List.mem_of_find?_eq_some hy
  unfold hdOf
  rw [hy]
  simp at h4 h5
  exact ⟨by simpa using (by omega : y ≤ x), h4.1, h4.2⟩
theorem hdOf_eq {M : Nat → Nat → Bool} (hT : Tr M) {a x : Nat} (h : fstM M a = true) (h' : oneM M a x = true) : hdOf M x = a := by
  obtain ⟨_, h2, h3⟩ := hdOf_spec hT x
  exact first_uniq hT h2 h h3 h'
theorem hdOf_one {M : Nat → Nat → Bool} (hT : Tr M) {x y : Nat} : hdOf M x = hdOf M y ↔ oneM M x y = true := by
  obtain ⟨_, h2, h3⟩ := hdOf_spec hT x
  obtain ⟨_, h2', h3'⟩ := hdOf_spec hT y
  constructor
  · intro e
    rw [e, oneM_symm] at h3
    exact oneM_trans hT h3 h3'
  · intro h
    exact first_uniq hT h2 h2' (oneM_trans hT h3 h) h3'
def cidx (M : Nat → Nat → Bool) (n x : Nat) : Nat := (hdsM M n).idxOf (hdOf M x)
theorem hdOf_mem {M : Nat → Nat → Bool} (hT : Tr M) {n x : Nat} (hx : x < n) : hdOf M x ∈ hdsM M n := by
  obtain ⟨h1, h2, _⟩ := hdOf_spec hT x
  exact hds_mem.2 ⟨by omega, h2⟩
theorem cidx_lt {M : Nat → Nat → Bool} (hT : Tr M) {n x : Nat} (hx : x < n) : cidx M n x < (hdsM M n).length := List.idxOf_lt_length_of_mem (hdOf_mem hT hx)
theorem cidx_get {M : Nat → Nat → Bool} (hT : Tr M) {n x : Nat} (hx : x < n) : (hdsM M n)[cidx M n x]'(cidx_lt hT hx) = hdOf M x := List.getElem_idxOf (cidx_lt hT hx)
theorem cidx_iff {M : Nat → Nat → Bool} (hT : Tr M) {n x t : Nat} (hx : x < n) (ht : t < (hdsM M n).length) : cidx M n x = t ↔ hdOf M x = (hdsM M n)[t] := by
  constructor
  · intro e; subst e; exact (cidx_get hT hx).symm
  · intro e
    exact nodup_inj hds_nodup (cidx_lt hT hx) ht (by rw [cidx_get hT hx, e])
theorem crc_len {M : Nat → Nat → Bool} {n : Nat} : (crc M n).length = (hdsM M n).length := by unfold crc; simp
theorem crc_get {M : Nat → Nat → Bool} {n t : Nat} (ht : t < (crc M n).length) : (crc M n)[t] = clsM M n ((hdsM M n)[t]'(by rw [← crc_len]; exact ht)) := List.getElem_map (clsM M n)
theorem crc_mem {M : Nat → Nat → Bool} (hT : Tr M) {n t x : Nat} (ht : t < (crc M n).length) : x ∈ (crc M n)[t] ↔ x < n ∧ cidx M n x = t := by
  have ht' : t < (hdsM M n).length := by rw [← crc_len]; exact ht
  have hm := hds_mem.1 (List.getElem_mem ht')
  rw [crc_get, clsM_mem]
  constructor
  · rintro ⟨h1, h2, h3⟩
    exact ⟨h1, (cidx_iff hT h1 ht').2 (hdOf_eq hT hm.2 h3)⟩
  · rintro ⟨h1, h2⟩
    have h3 := (cidx_iff hT h1 ht').1 h2
    obtain ⟨g1, g2, g3⟩ := hdOf_spec hT x
    rw [h3] at g1 g3
    exact ⟨h1, g1, g3⟩
theorem hds_len {M : Nat → Nat → Bool} {n : Nat} : (hdsM M n).length ≤ n := els_len_le _ _
/-- Places filled as far as row t, its k-th. -/
def filC (M : Nat → Nat → Bool) (n t k x : Nat) : Nat := if cidx M n x < t ∨ (cidx M n x = t ∧ x ∈ ((crc M n).getD t []).take k) then cidx M n x else 0
theorem filC_next {M : Nat → Nat → Bool} (hT : Tr M) {n t k x : Nat} (hx : x < n) (ht : t < (crc M n).length) (hk : (crc M n)[t].length ≤ k) : filC M n t k x = filC M n (t + 1) 0 x := by
  unfold filC
  have e : (crc M n).getD t [] = (crc M n)[t] := by simp [List.getD, ht]
  have hm : x ∈ ((crc M n).getD t []).take k ↔ cidx M n x = t := by
    rw [e, List.take_of_length_le hk, crc_mem hT]; exact ⟨fun g => g.2, fun g => ⟨hx, g⟩⟩
  by_cases h : cidx M n x < t
  · rw [if_pos (.inl h), if_pos (.inl (by omega))]
  · by_cases h' : cidx M n x = t
    · rw [if_pos (.inr ⟨h', hm.2 h'⟩), if_pos (.inl (by omega))]
    · rw [if_neg (by rintro (g | g); exact h g; exact h' g.1), if_neg (by rintro (g | g); omega; simp at g)]
theorem filC_step {M : Nat → Nat → Bool} (hT : Tr M) {n t k x : Nat} (ht : t < (crc M n).length) (hk : k < (crc M n)[t].length) : filC M n t (k + 1) x = if x = (crc M n)[t][k] then t else filC M n t k x := by
  have e : (crc M n).getD t [] = (crc M n)[t] := by simp [List.getD, ht]
  have hm := (crc_mem hT ht).1 (List.getElem_mem hk)
  unfold filC
  have hm2 : x ∈ ((crc M n).getD t []).take (k + 1) ↔ x ∈ ((crc M n).getD t []).take k ∨ x = (crc M n)[t][k] := by
    rw [e, List.take_succ_eq_append_getElem hk, List.mem_append, List.mem_singleton]
  by_cases h : x = (crc M n)[t][k]
  · rw [if_pos (.inr ⟨by rw [h]; exact hm.2, hm2.2 (.inr h)⟩), if_pos h, h, hm.2]
  · rw [if_neg h]
    have hm3 : x ∈ ((crc M n).getD t []).take (k + 1) ↔ x ∈ ((crc M n).getD t []).take k := by rw [hm2]; simp [h]
    simp only [hm3]
theorem filC_end {M : Nat → Nat → Bool} (hT : Tr M) {n x : Nat} (hx : x < n) : filC M n (crc M n).length 0 x = cidx M n x := by
  unfold filC
  rw [if_pos (.inl (by rw [crc_len]; exact cidx_lt hT hx))]
def clss (M : Nat → Nat → Bool) (n : Nat) : List Nat := (List.range n).map (cidx M n)
def PFn (H : Hp) (b n : Nat) (g : Nat → Nat) : Prop := ∀ x, x < n → rd H b x = some (iv (g x))
theorem PFn.sl {H : Hp} {b n c : Nat} {g : Nat → Nat} (h : PFn H b n g) (hc : n ≤ c) : Sl iv H (some ⟨b, 0, none⟩) n c ((List.range n).map g) :=
  ⟨by simp, hc, .inr ⟨b, 0, rfl, fun i hi => by
    simp at hi
    rw [Nat.zero_add, h i hi]; simp⟩⟩
theorem PFn.put {H : Hp} {b n : Nat} {g g' : Nat → Nat} (h : PFn H b n g) {x v : Nat} (hx : x < n) (hg : ∀ y, y < n → g' y = if y = x then v else g y) : PFn (wr H b x (iv v)) b n g' := fun y hy => by
  rw [hg y hy]
  by_cases e : y = x
  · subst e; rw [if_pos rfl, rd_wr_self (h y hy)]
  · rw [if_neg e, rd_wr_off e, h y hy]

end Go.Proofs.YteijgmmjgbgffaaDoor
