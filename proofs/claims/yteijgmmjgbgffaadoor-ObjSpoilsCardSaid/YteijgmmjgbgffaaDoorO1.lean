/- Contracts. -/
import Derived.Test.YteijgmmjgbgffaaDoorR10
import Derived.Test.YteijgmmjgbgffaaDoorVcRows
namespace Go.Proofs.YteijgmmjgbgffaaDoor
open Go.V
/-! ### Circles -/
def oneM (M : Nat → Nat → Bool) (a b : Nat) : Bool := decide (a = b) || (M a b && M b a)
/-- No smaller one is in a's class. -/
def fstM (M : Nat → Nat → Bool) (a : Nat) : Bool := (List.range a).all fun b => !oneM M a b
def clsM (M : Nat → Nat → Bool) (n a : Nat) : List Nat := els (fun b => decide (a ≤ b) && oneM M a b) n
def hdsM (M : Nat → Nat → Bool) (n : Nat) : List Nat := els (fstM M) n
def crcT (M : Nat → Nat → Bool) (n t : Nat) : List (List Nat) := (els (fstM M) t).map (clsM M n)
def crc (M : Nat → Nat → Bool) (n : Nat) : List (List Nat) := (hdsM M n).map (clsM M n)
theorem oneM_symm {M : Nat → Nat → Bool} {a b : Nat} : oneM M a b = oneM M b a := by
  unfold oneM
  rw [Bool.and_comm, decide_eq_decide.2 (eq_comm (a := a) (b := b))]
theorem oneM_iff {M : Nat → Nat → Bool} {a b : Nat} : oneM M a b = true ↔ a = b ∨ (M a b = true ∧ M b a = true) := by unfold oneM; simp
theorem oneM_trans {M : Nat → Nat → Bool} (hT : Tr M) {a b c : Nat} (h : oneM M a b = true) (h' : oneM M b c = true) : oneM M a c = true := by
  rw [oneM_iff] at *
  rcases h with rfl | h
  · exact h'
  rcases h' with rfl | h'
  · exact .inr h
  · exact .inr ⟨hT _ _ _ h.1 h'.1, hT _ _ _ h'.2 h.2⟩
theorem fstM_iff {M : Nat → Nat → Bool} {a : Nat} : fstM M a = true ↔ ∀ b, b < a → oneM M a b = false := by unfold fstM; simp
/-- Everyone has a first one in its class. -/
theorem first_of {M : Nat → Nat → Bool} (hT : Tr M) (x : Nat) : ∃ a, a ≤ x ∧ fstM M a = true ∧ oneM M a x = true := by
  induction x using Nat.strongRecOn with
  | _ x ih =>
    cases h : fstM M x with
    | true => exact ⟨x, Nat.le_refl _, h, by simp [oneM]⟩
    | false =>
      have : ∃ b, b < x ∧ oneM M x b = true := Classical.byContradiction fun g => by
        rw [fstM_iff.2 fun b hb => by cases e : oneM M x b; rfl; exact absurd ⟨b, hb, e⟩ g] at h; cases h
      obtain ⟨b, hb, h1⟩ := this
      obtain ⟨a, ha, h2, h3⟩ := ih b hb
      exact ⟨a, by omega, h2, oneM_trans hT h3 (by rw [oneM_symm]; exact h1)⟩
theorem first_uniq {M : Nat → Nat → Bool} (hT : Tr M) {a b x : Nat} (ha : fstM M a = true) (hb : fstM M b = true) (h : oneM M a x = true) (h' : oneM M b x = true) : a = b := by
  have h1 := oneM_trans hT h (by rw [oneM_symm]; exact h')
  rcases Nat.lt_trichotomy a b with g | g | g
  · have := fstM_iff.1 hb a g; rw [oneM_symm, h1] at this; cases this
  · exact g
  · have := fstM_iff.1 ha b g; rw [h1] at this; cases this
/-- Who has been seen as far as t, and of t's class below i. -/
def seenM (M : Nat → Nat → Bool) (t x : Nat) : Bool := (List.range t).any fun a => fstM M a && (decide (a < x) && M a x && M x a)
theorem seenM_self {M : Nat → Nat → Bool} (hT : Tr M) (t : Nat) : seenM M t t = !fstM M t := by
  rw [Bool.eq_iff_iff, Bool.not_eq_true']
  unfold seenM
  simp only [List.any_eq_true, List.mem_range, Bool.and_eq_true, decide_eq_true_eq]
  constructor
  · rintro ⟨a, _, _, ⟨ha, h1⟩, h2⟩
    cases h : fstM M t with
    | false => rfl
    | true =>
      have := fstM_iff.1 h a ha
      rw [oneM_iff.2 (.inr ⟨h2, h1⟩)] at this; cases this
  · intro h
    obtain ⟨a, ha, h1, h2⟩ := first_of hT t
    rcases oneM_iff.1 h2 with rfl | h2
    · rw [h] at h1; cases h1
    · have : a ≠ t := fun e => by subst e; rw [h] at h1; cases h1
      exact ⟨a, by omega, h1, ⟨by omega, h2.1⟩, h2.2⟩
theorem seenM_succ {M : Nat → Nat → Bool} {t x : Nat} : seenM M (t + 1) x = (seenM M t x || (fstM M t && (decide (t < x) && M t x && M x t))) := by
  unfold seenM; rw [List.range_succ, List.any_append]; simp
/-- The program's class, as far as i. -/
def behM (M : Nat → Nat → Bool) (a : Nat) (b : Nat) : Bool := decide (a < b) && M a b && M b a
theorem clsM_eq {M : Nat → Nat → Bool} {a : Nat} : ∀ i, a < i → els (fun b => decide (a ≤ b) && oneM M a b) i = a :: els (behM M a) i
  | 0, h => absurd h (Nat.not_lt_zero _)
  | i + 1, h => by
    by_cases e : a = i
    · subst e
      have h1 : els (fun b => decide (a ≤ b) && oneM M a b) a = [] := by
        unfold els; rw [List.filter_eq_nil_iff]; intro b hb; simp at hb ⊢; intro; omega
      have h2 : els (behM M a) (a + 1) = [] := by
        unfold els behM; rw [List.filter_eq_nil_iff]; intro b hb; simp at hb ⊢; intro h; omega
      rw [els_on (by simp [oneM]), h1, h2]; rfl
    · have ih := clsM_eq (M := M) (a := a) i (by omega)
      have e2 : (decide (a ≤ i) && oneM M a i) = behM M a i := by
        have h1 : a ≤ i := by omega
        have h2 : a < i := by omega
        unfold oneM behM; simp [h1, h2, e]
      cases hb : behM M a i with
      | true => rw [els_on (by rw [e2, hb]), els_on hb, ih]; rfl
      | false => rw [els_off (by rw [e2, hb]), els_off hb, ih]
theorem clsM_prog {M : Nat → Nat → Bool} {n a : Nat} (h : a < n) : clsM M n a = a :: els (behM M a) n := clsM_eq n h
theorem clsM_len {M : Nat → Nat → Bool} {n a : Nat} : (clsM M n a).length ≤ n := els_len_le _ _
theorem clsM_mem {M : Nat → Nat → Bool} {n a x : Nat} : x ∈ clsM M n a ↔ x < n ∧ a ≤ x ∧ oneM M a x = true := by unfold clsM; rw [els_mem]; simp
theorem crcT_len {M : Nat → Nat → Bool} {n t : Nat} : (crcT M n t).length ≤ t := by unfold crcT; rw [List.length_map]; exact els_len_le _ _
theorem crcT_on {M : Nat → Nat → Bool} {n t : Nat} (h : fstM M t = true) : crcT M n (t + 1) = crcT M n t ++ [clsM M n t] := by unfold crcT; rw [els_on h]; simp
theorem crcT_off {M : Nat → Nat → Bool} {n t : Nat} (h : fstM M t = false) : crcT M n (t + 1) = crcT M n t := by unfold crcT; rw [els_off h]
theorem hds_mem {M : Nat → Nat → Bool} {n a : Nat} : a ∈ hdsM M n ↔ a < n ∧ fstM M a = true := els_mem
theorem hds_nodup {M : Nat → Nat → Bool} {n : Nat} : (hdsM M n).Nodup := by unfold hdsM els; exact List.nodup_range.filter _

/-- One row less. -/
theorem slices_Delete_int_int.c {A H : Hp} {p : Option Addr} {l c : Nat} {hs : List Hd} {i : Nat} {j : Int} {K : Option Addr → Nat → Nat → Hp → Prop} (hB : Buf 1 A H p l c (hs.map hv)) (hi : i < hs.length) (hj : j = (i : Int) + 1)
    (hK : ∀ H', Buf 1 A H' p (l - 1) c ((hs.eraseIdx i).map hv) → Mod (blkL p) H H' → K p (l - 1) c H') : slices_Delete_int_int.C p l c (i : Int) j H K := by
  apply slices_Delete_int_int.of
  have hl : l = hs.length := by have := hB.1; simpa using this
  have hsl := hB.sl
  obtain ⟨b, rfl⟩ := hB.some_of (by omega)
  rcases hB.2 with ⟨h0, _, _⟩ | ⟨b', rest, h1, h2, h3, h4, h5, h6⟩
  · cases h0
  simp only [Option.some.injEq, Addr.mk.injEq, and_true] at h1
  subst h1
  subst hj
  refine ⟨l, rfl, h5, ?_⟩
  refine ⟨i, i + 1, rfl, by omega, by omega, by omega, ?_⟩
  refine bcd (fun h => absurd h (by omega)) fun _ => ?_
  refine ⟨i, rfl, by omega, ?_⟩
  refine ⟨i + 1, by omega, by omega, ?_⟩
  have em : movA (some ⟨b, 0, none⟩) 0 1 c = some ⟨b, 0, none⟩ := by unfold movA; simp [mulS]
  rw [em]
  have hsrc := hsl.slice (j := i + 1) (k := l) (by omega) (by omega)
  have hlast : ∃ z, hs.drop i = (hs.drop i).take (l - (i + 1)) ++ [z] := by
    have hd : (hs.drop i).length = (l - (i + 1)) + 1 := by simp; omega
    refine ⟨(hs.drop i)[l - (i + 1)]'(by omega), ?_⟩
    rw [List.take_append_getElem, List.take_of_length_le (by omega)]
  obtain ⟨z, hz⟩ := hlast
  have hblk : H b = some ((hs.take i).map hv ++ (((hs.drop i).take (l - (i + 1))).map hv ++ (hv z :: rest))) := by
    rw [h3]
    conv => lhs; rw [← List.take_append_drop i hs, hz]
    simp
  have hall : ((hs.take i).map hv ++ (((hs.drop i).take (l - (i + 1))).map hv ++ (hv z :: rest))).all isCell = true := by
    have e : hs.map hv ++ rest = (hs.take i).map hv ++ (((hs.drop i).take (l - (i + 1))).map hv ++ (hv z :: rest)) := by rw [h3] at hblk; exact Option.some.inj hblk
    rw [← e]; exact h6
  have hlt : (hs.take i).length = i := by simp; omega
  have hnew : (((hs.take l).drop (i + 1)).map hv).length = l - (i + 1) := by simp; omega
  have hcells : ∀ ys : List Hd, (ys.map hv).all isCell = true := fun ys => by rw [List.all_eq_true]; intro v hvv; obtain ⟨y, _, rfl⟩ := List.mem_map.1 hvv; rfl
  unfold APP
  refine sl_srcG hsrc (by simp only [movA]; split <;> exact PtOk.some) _ ?_
  have hT : te_sl_int.size = 1 := rfl
  rw [hT]
  refine ⟨fun _ => ⟨fun x hx => ?_, fun v hvv => List.all_eq_true.1 (hcells _) v hvv, ?_⟩, fun hgt => absurd hgt (by omega)⟩
  · unfold rd; rw [hblk]
    have hx' : 0 + (i - 0) * 1 + x < ((hs.take i).map hv ++ (((hs.drop i).take (l - (i + 1))).map hv ++ (hv z :: rest))).length := by
      rw [hnew] at hx
      simp; omega
    simp only [Option.bind_some, List.getElem?_eq_getElem hx']
    rw [all_get hall (List.getElem?_eq_getElem hx')]; rfl
  · have hw := wrN_at b (((hs.take l).drop (i + 1)).map hv) ((hs.take i).map hv) (((hs.drop i).take (l - (i + 1))).map hv) (hv z :: rest) H (by rw [hnew]; simp; omega) hblk
    have e0 : 0 + (i - 0) * 1 = ((hs.take i).map hv).length := by simp; omega
    rw [e0]
    generalize hH1 : wrN H b ((hs.take i).map hv).length (((hs.take l).drop (i + 1)).map hv) = H1 at *
    have m1 : Mod (blkL (some ⟨b, 0, none⟩)) H H1 := fun x hx d hd => by
      rw [← hH1, rd_wrN_ne _ _ _ _ _ (by simpa [blkL] using hx)]; exact hd
    have el : i - 0 + (l - (i + 1)) = l - 1 := by omega
    rw [el]
    refine ⟨l - 1, l, rfl, rfl, by omega, by omega, ?_⟩
    have hc : ¬ (c = l - 1) := by omega
    have em2 : movA (some ⟨b, 0, none⟩) (l - 1) 1 c = some ⟨b, l - 1, none⟩ := by simp [movA, hc, mulS]
    have e1 : l - (l - 1) = 1 := by omega
    show CLR H1 te_sl_int (movA (some ⟨b, 0, none⟩) (l - 1) 1 c) (l - (l - 1)) fun Hx22 => K (some ⟨b, 0, none⟩) (l - 1) c Hx22
    rw [em2, e1]
    have hpre : ((hs.take i).map hv ++ ((hs.take l).drop (i + 1)).map hv) = (hs.eraseIdx i).map hv := by
      have ht : hs.take l = hs := List.take_of_length_le (by omega)
      rw [← List.map_append, List.eraseIdx_eq_take_drop_succ, ht]
    have hw2 : H1 b = some ((hs.eraseIdx i).map hv ++ ([hv z] ++ rest)) := by rw [hw, ← hpre]; simp
    have hpl : ((hs.eraseIdx i).map hv).length = l - 1 := by simp [List.length_eraseIdx, hi]; omega
    have hr : rep 1 te_sl_int.zc = [.slice none 0 0] := rfl
    refine ⟨fun x hx => ?_, fun v hvv => ?_, ?_⟩
    · rw [hr] at hx
      simp at hx; subst hx
      unfold rd; rw [hw2]
      simp only [Option.bind_some, Nat.add_zero]
      rw [List.getElem?_append_right (by omega), hpl]
      simp [hv, nmO]
    · rw [hr] at hvv; simp at hvv; subst hvv; rfl
    · rw [hr]
      have hw3 := wrN_at b [.slice none 0 0] ((hs.eraseIdx i).map hv) [hv z] rest H1 rfl hw2
      rw [hpl] at hw3
      have m2 : Mod (blkL (some ⟨b, 0, none⟩)) H (wrN H1 b (l - 1) [.slice none 0 0]) := fun x hx d hd => by
        rw [rd_wrN_ne _ _ _ _ _ (by simpa [blkL] using hx)]; exact m1 x hx d hd
      refine hK _ ⟨by simpa using hpl.symm, .inr ⟨b, .slice none 0 0 :: rest, rfl, h2, by rw [hw3]; simp, ?_, by omega, ?_⟩⟩ m2
      · simp at h4 ⊢; simp at hpl; omega
      · rw [List.all_append, hcells, Bool.true_and, List.all_cons]
        rw [List.all_append, Bool.and_eq_true] at h6
        exact h6.2
end Go.Proofs.YteijgmmjgbgffaaDoor
