/- Contracts and plain laws that the claim rests on, for every input: no condition. -/
import Derived.Test.YteijgmmjgbgffaaDoorZ4
import Derived.Test.YteijgmmjgbgffaaDoorTie
import Derived.Test.YteijgmmjgbgffaaDoorCards
import Derived.LaidMore
import Derived.OpenShut
import Derived.SevenTiedAt
import Derived.MakeChecks
import Derived.Handed
import Derived.LaidLaws
namespace Go.Proofs.YteijgmmjgbgffaaDoor
open Go.V
/-! ### The row of a closed relation: all, once, in order -/
theorem cidx_one {M : Nat → Nat → Bool} (hT : Tr M) {n x y : Nat} (hx : x < n) (hy : y < n) : cidx M n x = cidx M n y ↔ oneM M x y = true := by
  rw [← hdOf_one hT]
  constructor
  · intro e
    have h1 := cidx_get hT hx
    have h2 := cidx_get hT hy
    rw [← h1, ← h2]
    congr 1
  · intro e; unfold cidx; rw [e]
theorem sum_add1 {g : Nat → Nat} {a : Nat} : ∀ T, ((List.range T).map fun t => g t + if a = t then 1 else 0).sum = ((List.range T).map g).sum + if a < T then 1 else 0
  | 0 => by simp
  | T + 1 => by
    rw [List.range_succ, List.map_append, List.map_append, List.sum_append, List.sum_append, sum_add1 T]
    simp only [List.map_cons, List.map_nil, List.sum_cons, List.sum_nil]
    by_cases h : a < T
    · rw [if_pos h, if_neg (by omega), if_pos (by omega)]; omega
    · by_cases e : a = T
      · rw [if_neg h, if_pos e, if_pos (by omega)]; omega
      · rw [if_neg h, if_neg e, if_neg (by omega)]; omega
theorem sum_count {f : Nat → Nat} {T : Nat} : ∀ l : List Nat, (∀ x ∈ l, f x < T) → ((List.range T).map fun t => (l.filter fun x => decide (f x = t)).length).sum = l.length
  | [], _ => by
    have : ∀ T, ((List.range T).map fun _ => ([] : List Nat).length).sum = 0 := fun T => by
      induction T with
      | zero => rfl
      | succ T ih => rw [List.range_succ, List.map_append, List.sum_append, ih]; rfl
    exact this T
  | a :: l, h => by
    have e : (fun t => ((a :: l).filter fun x => decide (f x = t)).length) = fun t => (l.filter fun x => decide (f x = t)).length + if f a = t then 1 else 0 := by
      funext t
      by_cases h : f a = t <;> simp [h]
    rw [e, sum_add1, sum_count l fun x hx => h x (List.mem_cons_of_mem _ hx), if_pos (h a (by simp))]
    rfl
theorem crc_sum {M : Nat → Nat → Bool} (hT : Tr M) {n : Nat} : ((crc M n).map List.length).sum = n := by
  have h := sum_count (f := cidx M n) (T := (crc M n).length) (List.range n) fun x hx => by rw [crc_len]; exact cidx_lt hT (by simpa using hx)
  rw [List.length_range] at h
  refine Eq.trans ?_ h
  congr 1
  refine List.ext_getElem (by simp) fun t h1 h2 => ?_
  have ht : t < (crc M n).length := by simpa using h1
  simp only [List.getElem_map, List.getElem_range]
  congr 1
  rw [crc_get]
  unfold clsM els
  refine List.filter_congr fun x hx => ?_
  have hx : x < n := by simpa using hx
  have := crc_mem hT ht (x := x)
  rw [crc_get, clsM_mem] at this
  rw [Bool.eq_iff_iff]
  simp only [Bool.and_eq_true, decide_eq_true_eq]
  constructor
  · rintro ⟨h1, h2⟩; exact (this.1 ⟨hx, h1, h2⟩).2
  · intro h; exact (this.2 ⟨hx, h⟩).2
theorem sum_take {l : List (List Nat)} {i : Nat} (hi : i < l.length) : ((l.take (i + 1)).map List.length).sum = ((l.take i).map List.length).sum + l[i].length := by
  rw [List.take_succ_eq_append_getElem hi, List.map_append, List.sum_append]
  simp only [List.map_cons, List.map_nil, List.sum_cons, List.sum_nil, Nat.add_zero]
theorem sum_take_le {l : List (List Nat)} {i : Nat} : ((l.take i).map List.length).sum ≤ (l.map List.length).sum := by
  conv => rhs; rw [← List.take_append_drop i l]
  rw [List.map_append, List.sum_append]
  exact Nat.le_add_right _ _
theorem filter_lt {α : Type} {p q : α → Bool} : ∀ {l : List α}, (∀ x ∈ l, p x = true → q x = true) → (∃ x ∈ l, q x = true ∧ p x = false) → (l.filter p).length < (l.filter q).length
  | [], _, h => by obtain ⟨x, hx, _⟩ := h; cases hx
  | a :: l, h, hex => by
    have hle : ∀ l' : List α, (∀ x ∈ l', p x = true → q x = true) → (l'.filter p).length ≤ (l'.filter q).length := by
      intro l'
      induction l' with
      | nil => intro _; exact Nat.le_refl _
      | cons b l' ih =>
        intro h
        have ih := ih fun x hx => h x (List.mem_cons_of_mem _ hx)
        cases hp : p b with
        | true => rw [List.filter_cons_of_pos hp, List.filter_cons_of_pos (h b (by simp) hp)]; simp; exact ih
        | false =>
          rw [List.filter_cons_of_neg (by simp [hp])]
          cases hq : q b with
          | true => rw [List.filter_cons_of_pos hq]; simp; omega
          | false => rw [List.filter_cons_of_neg (by simp [hq])]; exact ih
    have htl : ∀ x ∈ l, p x = true → q x = true := fun x hx => h x (List.mem_cons_of_mem _ hx)
    obtain ⟨x, hx, h1, h2⟩ := hex
    rcases List.mem_cons.1 hx with rfl | hx
    · rw [List.filter_cons_of_pos h1, List.filter_cons_of_neg (by simp [h2])]
      have := hle l htl
      simp; omega
    · have ih := filter_lt htl ⟨x, hx, h1, h2⟩
      cases hp : p a with
      | true => rw [List.filter_cons_of_pos hp, List.filter_cons_of_pos (h a (by simp) hp)]; simp; exact ih
      | false =>
        rw [List.filter_cons_of_neg (by simp [hp])]
        cases hq : q a with
        | true => rw [List.filter_cons_of_pos hq]; simp; omega
        | false => rw [List.filter_cons_of_neg (by simp [hq])]; exact ih
theorem heads_apart {M : Nat → Nat → Bool} {g h : Nat} (hg : fstM M g = true) (hh : fstM M h = true) (h1 : M g h = true) (h2 : M h g = true) : g = h := by
  rcases Nat.lt_trichotomy g h with e | e | e
  · have := fstM_iff.1 hh g e; rw [oneM_iff.2 (.inr ⟨h2, h1⟩)] at this; cases this
  · exact e
  · have := fstM_iff.1 hg h e; rw [oneM_iff.2 (.inr ⟨h1, h2⟩)] at this; cases this
/-- Someone is free. -/
theorem some_free {M : Nat → Nat → Bool} (hT : Tr M) {rem : List Nat} (hf : ∀ x ∈ rem, fstM M x = true) : ∀ (k h : Nat), h ∈ rem → (rem.filter fun g => decide (g ≠ h) && M g h).length = k → ∃ x, x ∈ rem ∧ freeL M rem x = true := by
  intro k
  induction k using Nat.strongRecOn with
  | _ k ih =>
    intro h hh hk
    cases e : freeL M rem h with
    | true => exact ⟨h, hh, e⟩
    | false =>
      unfold freeL at e
      rw [List.all_eq_false] at e
      obtain ⟨g, hg, hgh⟩ := e
      have hne : g ≠ h := fun e => hgh (by simp [e])
      have hM : M g h = true := by
        cases hm : M g h with
        | true => rfl
        | false => exact absurd (by simp [hm]) hgh
      refine ih _ ?_ g hg rfl
      rw [← hk]
      refine filter_lt (fun x hx hp => ?_) ⟨g, hg, by simp [hne, hM], by simp⟩
      simp only [Bool.and_eq_true, decide_eq_true_eq] at hp ⊢
      refine ⟨fun e => hne ?_, hT _ _ _ hp.2 hM⟩
      subst e
      exact heads_apart (hf _ hg) (hf _ hh) hM hp.2
theorem find_free {M : Nat → Nat → Bool} (hT : Tr M) {rem : List Nat} (hf : ∀ x ∈ rem, fstM M x = true) (hne : rem ≠ []) : ∃ h, rem.find? (freeL M rem) = some h := by
  cases e : rem.find? (freeL M rem) with
  | some h => exact ⟨h, rfl⟩
  | none =>
    obtain ⟨h, hh⟩ := List.exists_mem_of_ne_nil rem hne
    obtain ⟨x, hx, h1⟩ := some_free hT hf _ h hh rfl
    exact absurd h1 (List.find?_eq_none.1 e x hx)
/-- What the row is made of. -/
theorem srtS_spec {M : Nat → Nat → Bool} (hT : Tr M) {n : Nat} : ∀ (k : Nat) (rem : List Nat), rem.length = k → (∀ x ∈ rem, x < n ∧ fstM M x = true) → rem.Nodup →
    (∀ x, x ∈ srtS M n k rem ↔ ∃ g ∈ rem, x ∈ clsM M n g) ∧ (srtS M n k rem).Nodup ∧ (srtS M n k rem).Pairwise (fun x y => ¬ (M y x = true ∧ M x y = false)) ∧ (srtS M n k rem).length = ((rem.map (clsM M n)).map List.length).sum
  | 0, rem, hk, _, _ => by
    have e : rem = [] := List.length_eq_zero_iff.1 hk
    subst e
    simp [srtS]
  | k + 1, rem, hk, hf, hnd => by
    have hf' : ∀ x ∈ rem, fstM M x = true := fun x hx => (hf x hx).2
    obtain ⟨h, hfind⟩ := find_free hT hf' (fun e => by subst e; simp at hk)
    have hmem := List.mem_of_find?_eq_some hfind
    have hfree := List.find?_some hfind
    have hle := List.length_erase_of_mem hmem
    have hmem2 : ∀ x, x ∈ rem.erase h ↔ x ≠ h ∧ x ∈ rem := fun x => hnd.mem_erase_iff
    obtain ⟨i1, i2, i3, i4⟩ := srtS_spec hT k (rem.erase h) (by omega) (fun x hx => hf x ((hmem2 x).1 hx).2) (hnd.erase h)
    have e : srtS M n (k + 1) rem = clsM M n h ++ srtS M n k (rem.erase h) := by rw [srtS, hfind]
    rw [e]
    refine ⟨fun x => ?_, List.nodup_append.2 ⟨?_, i2, fun x hx y hy e => ?_⟩, List.pairwise_append.2 ⟨?_, i3, fun x hx y hy => ?_⟩, ?_⟩
    · rw [List.mem_append, i1]
      constructor
      · rintro (h1 | ⟨g, hg, h1⟩)
        · exact ⟨h, hmem, h1⟩
        · exact ⟨g, ((hmem2 g).1 hg).2, h1⟩
      · rintro ⟨g, hg, h1⟩
        by_cases e : g = h
        · subst e; exact .inl h1
        · exact .inr ⟨g, (hmem2 g).2 ⟨e, hg⟩, h1⟩
    · unfold clsM els; exact List.nodup_range.filter _
    · subst e
      obtain ⟨g, hg, h1⟩ := (i1 x).1 hy
      have := (hmem2 g).1 hg
      exact this.1 (first_uniq hT (hf' _ this.2) (hf' _ hmem) (clsM_mem.1 h1).2.2 (clsM_mem.1 hx).2.2)
    · refine List.Pairwise.imp_of_mem (R := fun _ _ => True) (fun {x y} hx hy _ => ?_) (List.pairwise_of_forall fun _ _ => trivial)
      rintro ⟨h1, h2⟩
      have := oneM_trans hT (by rw [oneM_symm]; exact (clsM_mem.1 hx).2.2) (clsM_mem.1 hy).2.2
      rcases oneM_iff.1 this with e | e
      · subst e; rw [h1] at h2; cases h2
      · rw [e.1] at h2; cases h2
    · rintro ⟨h1, _⟩
      obtain ⟨g, hg, h3⟩ := (i1 y).1 hy
      have hgm := (hmem2 g).1 hg
      have a1 := (clsM_mem.1 h3).2.2
      have a2 := (clsM_mem.1 hx).2.2
      have b1 : M g x = true := by
        rcases oneM_iff.1 a1 with e | e
        · rw [e]; exact h1
        · exact hT _ _ _ e.1 h1
      have b2 : M g h = true := by
        rcases oneM_iff.1 a2 with e | e
        · rw [e]; exact b1
        · exact hT _ _ _ b1 e.2
      unfold freeL at hfree
      have := List.all_eq_true.1 hfree g hgm.2
      rw [b2] at this
      simp at this
      exact hgm.1 this
    · rw [List.length_append, i4]
      have hp := ((List.perm_cons_erase hmem).map (clsM M n)).map List.length
      have := hp.sum_nat
      simpa using this.symm
theorem srt_spec {M : Nat → Nat → Bool} (hT : Tr M) {n : Nat} : (∀ x, x ∈ srt M n ↔ x < n) ∧ (srt M n).Nodup ∧ (srt M n).Pairwise (fun x y => ¬ (M y x = true ∧ M x y = false)) ∧ (srt M n).length = n := by
  obtain ⟨h1, h2, h3, h4⟩ := srtS_spec hT (n := n) _ (hdsM M n) rfl (fun x hx => hds_mem.1 hx) hds_nodup
  refine ⟨fun x => ?_, h2, h3, ?_⟩
  · rw [srt, h1]
    constructor
    · rintro ⟨g, _, h⟩; exact (clsM_mem.1 h).1
    · intro hx
      obtain ⟨g1, g2, g3⟩ := hdOf_spec hT x
      exact ⟨hdOf M x, hdOf_mem hT hx, clsM_mem.2 ⟨hx, g1, g3⟩⟩
  · rw [srt, h4]; exact crc_sum hT
end Go.Proofs.YteijgmmjgbgffaaDoor
namespace Go.Proofs.YteijgmmjgbgffaaDoor
open Go.V
/-! ### Going through what can be seen -/
section
variable {f : ByteArray} {lp pp : Option Addr} {ll lc pl pc : Nat} {ls : List Ln} {ps : List (Int × Int)} {H : Hp}
/-- What is shown, in order: places among those that are alive. -/
def ordL (ls : List Ln) (ps : List (Int × Int)) : List Nat := srt (rM ls ps) (alv ls).length
theorem Sl_mod {α : Type} {g : α → Value} {H H' : Hp} {p : Option Addr} {l c : Nat} {xs : List α} {O : List Nat} (h : Sl g H p l c xs) (hm : Mod O H H') (hp : ∀ b o, p = some ⟨b, o, none⟩ → b ∉ O) : Sl g H' p l c xs :=
  ⟨h.1, h.2.1, h.2.2.imp id fun ⟨b, o, e, hh⟩ => ⟨b, o, e, fun i hi => hm.rd (hp b o e) (hh i hi)⟩⟩
theorem view_each_1.c {cp : Nat} {G : Int → Int → Hp → (Al → Hp → Prop) → Prop} {K : Al → Hp → Prop} (hd : D3 H cp f lp ll lc pp pl pc) (hL : Sn 4 lnC H lp ll lc ls) (hP : Sn 2 pairC H pp pl pc ps) (hT : Tz H) (hll : ll ≤ 200) (hpl : pl ≤ 1000000000)
    (hsrt : ∀ x ∈ ordL ls ps, x < (alv ls).length) (hol : (ordL ls ps).length ≤ 1000) (J : Nat → List Nat → Hp → Prop) (S0 : List Nat) (hS0 : ∀ x ∈ S0, H x ≠ none) (hg : gTab ∉ S0) (h0 : ∀ Hx, Le H Hx → J 0 S0 Hx)
    (step : ∀ i (hi : i < (ordL ls ps).length) S Hx (Kb : Al → Hp → Prop), J i S Hx → (∀ S' H', J (i + 1) S' H' → Mod S Hx H' → (∀ x ∈ S', x ∈ S ∨ Hx x = none) → Kb .on H') → G (((alv ls).getD (ordL ls ps)[i] 0 : Nat) : Int) (markM (rM ls ps) (alv ls).length (ordL ls ps)[i]) Hx Kb)
    (hK : ∀ S Hx, J (ordL ls ps).length S Hx → K .on Hx) : view_each_1.I cp H G K := by
  apply view_each_1.of
  refine ldS_i hd.1 (ldL_i hd.2.1 (ldL_i hd.2.2 ?_))
  refine view_Alive.c hL hP hT hll hpl fun p l c R O H1 s1 n1 u1 hO le1 => ?_
  have hlim := u1.lim
  refine order_Sort.n (.inr ⟨R, O, rfl, u1⟩) hlim fun p2 l2 c2 H2 s2 n2 le2 => ?_
  rw [clo_rM] at s2
  have s2 : Sl iv H2 p2 l2 c2 (ordL ls ps) := s2
  have sl := s1.len
  have sl2 := s2.len
  have le02 := le1.trans le2
  have hl2 : l2 ≤ 1000000000 := by omega
  refine ⟨fun t Hx => ∃ (i : Nat) (S : List Nat), t = (i : Nat) ∧ i ≤ l2 ∧ J i S Hx ∧ Mod S0 H2 Hx ∧ (∀ x ∈ S, x ∈ S0 ∨ H2 x = none), fun t _ => ((l2 : Int) - t).toNat, ⟨0, S0, rfl, Nat.zero_le _, h0 _ le02, Mod.refl, fun x hx => .inl hx⟩, ?_⟩
  rintro t H3 ⟨i, S, rfl, gi, hJ, m3, hS⟩
  have s13 := Sl_mod (s1.le le2) m3 fun b o e hb => hS0 b hb (n1 b o e)
  have s23 := Sl_mod s2 m3 fun b o e hb => hS0 b hb (none_of_le le1 (n2 b o e))
  have u3 := (u1.le le2).mod m3 (fun b hb hb' => hS0 b hb (hO b hb')) hg
  refine bcd (fun hlt => ?_) fun hlt => ?_
  · have hi : i < (ordL ls ps).length := by omega
    have hx := hsrt _ (List.getElem_mem hi)
    refine slI s23 (fun _ => rfl) (by omega) hlt fun _ => ?_
    simp only [Int.toNat_natCast]
    obtain ⟨b, o, e, hr⟩ := s13.at hx
    have hrd := hr _ hx
    subst e
    refine idxN (ordL ls ps)[i] rfl (by omega) (nil (ldI_i hrd (view_mark.c u3 ⟨hrd, ?_⟩)))
    have := step i hi S H3 (fun al48 Hx46 => alC al48 (CHK .i64 (((i : Nat) : Int) + (1 : Int)) fun x51 => (∃ (i : Nat) (S : List Nat), x51 = (i : Nat) ∧ i ≤ l2 ∧ J i S Hx46 ∧ Mod S0 H2 Hx46 ∧ (∀ x ∈ S, x ∈ S0 ∨ H2 x = none)) ∧ ((l2 : Int) - x51).toNat < ((l2 : Int) - ((i : Nat) : Int)).toNat) fun j44 up45 => K (.off j44 up45) Hx46) hJ fun S' H' j' m' g' => ?_
    · rw [show (alv ls).getD (ordL ls ps)[i] 0 = (alv ls)[(ordL ls ps)[i]] by simp [List.getD, hx]] at this
      exact this
    · refine alOn (chk (by omega) ⟨⟨i + 1, S', by omega, by omega, j', fun x hx' c' hc => ?_, fun x hx' => ?_⟩, by omega⟩)
      · refine m' x (fun hxS => ?_) c' (m3 x hx' c' hc)
        rcases hS x hxS with h | h
        · exact hx' h
        · rw [h] at hc; cases hc
      · rcases g' x hx' with h | h
        · exact hS x h
        · by_cases hx0 : x ∈ S0
          · exact .inl hx0
          · right
            cases hh : H2 x with
            | none => rfl
            | some c' => rw [m3 x hx0 c' hh] at h; cases h
  · have : i = (ordL ls ps).length := by omega
    subst this
    exact hK S H3 hJ
end
end Go.Proofs.YteijgmmjgbgffaaDoor
namespace Go.Proofs.YteijgmmjgbgffaaDoor
open Go.V
/-! ### What is shown -/
structure Shn where
  p : Int
  n : Int
  m : UInt8
  t : BL
def shC (x : Shn) : List Value := [.int .u32 x.p, .int .i64 x.n, .int .u8 ((x.m.toNat : Nat) : Int), sv x.t]
theorem shC_len (x : Shn) : (shC x).length = 4 := rfl
def markB (M : Nat → Nat → Bool) (n i : Nat) : UInt8 := if M i i then 33 else if apartM M n i then 63 else 32
theorem markM_B {M : Nat → Nat → Bool} {n i : Nat} : markM M n i = ((markB M n i).toNat : Nat) := by
  unfold markM markB
  split
  · rfl
  · split <;> rfl
section
variable {f : ByteArray} {lp pp : Option Addr} {ll lc pl pc : Nat} {ls : List Ln} {ps : List (Int × Int)} {H : Hp}
def shn (ls : List Ln) (ps : List (Int × Int)) (k : Nat) : Shn :=
  ⟨(ls.getD ((alv ls).getD k 0) ⟨0, 0, [], true⟩).p, (ls.getD ((alv ls).getD k 0) ⟨0, 0, [], true⟩).n, markB (rM ls ps) (alv ls).length k, (ls.getD ((alv ls).getD k 0) ⟨0, 0, [], true⟩).t⟩
def shL (ls : List Ln) (ps : List (Int × Int)) : List Shn := (ordL ls ps).map (shn ls ps)
/-- The places, in order. -/
def ordP (ls : List Ln) (ps : List (Int × Int)) : List Nat := (ordL ls ps).map fun k => (alv ls).getD k 0
theorem ord_spec : (∀ x, x ∈ ordL ls ps ↔ x < (alv ls).length) ∧ (ordL ls ps).Nodup ∧ (ordL ls ps).Pairwise (fun x y => ¬ (rM ls ps y x = true ∧ rM ls ps x y = false)) ∧ (ordL ls ps).length = (alv ls).length := srt_spec rM_tr
theorem view_each.c {K : Value → Hp → Prop} (hK : ∀ cp H', D3 H' cp f lp ll lc pp pl pc → H cp = none → Le H H' → K (.func (.func view_each_1.num) ⟨[]⟩ ⟨[.pointer (some ⟨cp, 0, none⟩)]⟩) H') : view_each.C f lp ll lc pp pl pc H K := by
  apply view_each.of
  exact fun b hb => hK b _ D3.new hb (Le.upd hb)
theorem aD {k : Nat} (h : k < (alv ls).length) : (alv ls).getD k 0 = (alv ls)[k] := by simp [List.getD, h]
theorem aD_lt {k : Nat} (h : k < (alv ls).length) : (alv ls).getD k 0 < ls.length := by rw [aD h]; exact alv_lt h
theorem view_Order.c {K : Option Addr → Nat → Nat → Hp → Prop} (hL : Sn 4 lnC H lp ll lc ls) (hP : Sn 2 pairC H pp pl pc ps) (hT : Tz H) (hll : ll ≤ 200) (hpl : pl ≤ 1000000000)
    (hK : ∀ p l c H', Buf 1 H H' p l c ((ordP ls ps).map iv) → Le H H' → K p l c H') : view_Order.C f lp ll lc pp pl pc H K := by
  apply view_Order.of
  have el := hL.len
  have ha := alv_len (ls := ls)
  obtain ⟨o1, _, _, o4⟩ := ord_spec (ls := ls) (ps := ps)
  intro b hb
  have d : D3 (upd H b [.string f, .slice lp ll lc, .slice pp pl pc]) b f lp ll lc pp pl pc := D3.new
  have le1 : Le H (upd H b [.string f, .slice lp ll lc, .slice pp pl pc]) := Le.upd hb
  generalize upd H b [.string f, .slice lp ll lc, .slice pp pl pc] = H1 at *
  intro m hm
  have le2 : Le H1 (upd H1 m [.slice none 0 0]) := Le.upd hm
  have rm : rd (upd H1 m [.slice none 0 0]) m 0 = some (.slice none 0 0) := by rw [rd_upd_self]; rfl
  generalize upd H1 m [.slice none 0 0] = H2 at *
  have hmH := none_of_le le1 hm
  have le02 := le1.trans le2
  refine (d.le le2).get (view_each.c fun cp H3 d3 hcp le3 => ?_)
  have le03 := le02.trans le3
  show view_each_1.I cp H3 _ _
  refine view_each_1.c d3 (hL.le le03) (hP.le le03) (hT.le le03) hll hpl (fun x hx => (o1 x).1 hx) (by omega) (fun i S Hx => Acc 1 H Hx m S (((ordP ls ps).take i).map iv)) [m] (by simpa using ne_none_of_rd (le3.rd rm)) (fun h => by simp at h; exact hT.there (h ▸ hmH)) (fun Hx hle => ?_) ?_ ?_
  · exact Acc.start hmH (le03.trans hle) ((le3.trans hle).rd rm)
  · intro i hi S Hx Kb hA hon
    refine hA.push (te := te_int) rfl (by decide) rfl (by decide) rfl rfl (by simp [te_int]; omega) fun S' H' hA' m' g' => hon S' H' ?_ m' g'
    have hs : (ordP ls ps).take (i + 1) = (ordP ls ps).take i ++ [(alv ls).getD (ordL ls ps)[i] 0] := by
      unfold ordP
      rw [← List.map_take, ← List.map_take, List.take_succ_eq_append_getElem hi, List.map_append]; rfl
    rw [hs, List.map_append]; exact hA'
  · intro S Hx hA
    rw [List.take_of_length_le (by unfold ordP; simp)] at hA
    exact alOn (hA.end fun p l c hB => hK p l c Hx hB hA.1)
theorem view_Show.c {K : Option Addr → Nat → Nat → Hp → Prop} (hL : Sn 4 lnC H lp ll lc ls) (hP : Sn 2 pairC H pp pl pc ps) (hT : Tz H) (hll : ll ≤ 200) (hpl : pl ≤ 1000000000)
    (hK : ∀ p l c H', Buf 4 H H' p l c ((shL ls ps).flatMap shC) → Le H H' → K p l c H') : view_Show.C f lp ll lc pp pl pc H K := by
  apply view_Show.of
  have el := hL.len
  have ha := alv_len (ls := ls)
  obtain ⟨o1, _, _, o4⟩ := ord_spec (ls := ls) (ps := ps)
  intro b hb
  have d : D3 (upd H b [.string f, .slice lp ll lc, .slice pp pl pc]) b f lp ll lc pp pl pc := D3.new
  have le1 : Le H (upd H b [.string f, .slice lp ll lc, .slice pp pl pc]) := Le.upd hb
  generalize upd H b [.string f, .slice lp ll lc, .slice pp pl pc] = H1 at *
  intro m hm
  have le2 : Le H1 (upd H1 m [.slice none 0 0]) := Le.upd hm
  have rm : rd (upd H1 m [.slice none 0 0]) m 0 = some (.slice none 0 0) := by rw [rd_upd_self]; rfl
  generalize upd H1 m [.slice none 0 0] = H2 at *
  have hmH := none_of_le le1 hm
  have le02 := le1.trans le2
  have hbm : b ≠ m := fun e => d.there (e ▸ hm)
  refine (d.le le2).get (view_each.c fun cp H3 d3 hcp le3 => ?_)
  have le03 := le02.trans le3
  have d03 := (d.le le2).le le3
  show view_each_1.I cp H3 _ _
  refine view_each_1.c d3 (hL.le le03) (hP.le le03) (hT.le le03) hll hpl (fun x hx => (o1 x).1 hx) (by omega) (fun i S Hx => Acc 4 H Hx m S (((shL ls ps).take i).flatMap shC) ∧ D3 Hx b f lp ll lc pp pl pc ∧ b ∉ S) [m] (by simpa using ne_none_of_rd (le3.rd rm)) (fun h => by simp at h; exact hT.there (h ▸ hmH)) (fun Hx hle => ?_) ?_ ?_
  · exact ⟨Acc.start hmH (le03.trans hle) ((le3.trans hle).rd rm), d03.le hle, by simpa using hbm⟩
  · rintro i hi S Hx Kb ⟨hA, hd, hbS⟩ hon
    have hk := (o1 _).1 (List.getElem_mem hi)
    have hkl := aD_lt hk
    obtain ⟨p, l, c, hr, hl, hB, hpush⟩ := hA.get
    refine ldL_i hr (ldL_i hd.2.1 ?_)
    refine sn_nil (hL.le hA.1) (by omega) (by omega) fun q o hj e => ?_
    have hj : (alv ls).getD (ordL ls ps)[i] 0 < ls.length := hkl
    simp only [Int.toNat_natCast] at e ⊢
    refine ldI_i (e 0 _ rfl) (ldI_i (e 1 _ rfl) (ldL_i hd.2.1 ?_))
    refine sn_nil (hL.le hA.1) (by omega) (by omega) fun q' o' _ e' => ?_
    simp only [Int.toNat_natCast] at e' ⊢
    refine ldS_i (e' 2 _ rfl) ⟨hr, fun b' hb' => ?_⟩
    have key := hpush (te := te_api_Shown) (new := shC (shn ls ps (ordL ls ps)[i])) rfl (by decide) rfl (by decide) rfl rfl ?_ (F := Kb .on) (fun S' H' hA' m' g' => ?_) rfl rfl b' hb'
    · have e0 : ls[(alv ls).getD (ordL ls ps)[i] 0] = ls.getD ((alv ls).getD (ordL ls ps)[i] 0) ⟨0, 0, [], true⟩ := (lnD hkl).symm
      rw [e0, markM_B]
      exact key
    · rw [flatMap_len shC_len, List.length_take]
      have : min i (shL ls ps).length ≤ 200 := by unfold shL; simp; omega
      have h2 := Nat.mul_le_mul_right 4 this
      show (_ + 4) * _ ≤ _
      simp [te_api_Shown]; omega
    · refine hon S' H' ⟨?_, hd.mod m' hbS, fun h => ?_⟩ m' g'
      · have hs : (shL ls ps).take (i + 1) = (shL ls ps).take i ++ [shn ls ps (ordL ls ps)[i]] := by
          unfold shL
          rw [← List.map_take, ← List.map_take, List.take_succ_eq_append_getElem hi, List.map_append]; rfl
        rw [hs, List.flatMap_append]; simpa using hA'
      · rcases g' b h with h | h
        · exact hbS h
        · exact hd.there h
  · rintro S Hx ⟨hA, _⟩
    rw [List.take_of_length_le (by unfold shL; simp)] at hA
    exact alOn (hA.end fun p l c hB => hK p l c Hx hB hA.1)
end
end Go.Proofs.YteijgmmjgbgffaaDoor
namespace Go.Proofs.YteijgmmjgbgffaaDoor
open Go.V
/-! ### Texts of what is shown -/
/-- A builder that grows; S: what is written when it does. -/
def BdS (A H : Hp) (b : Nat) (S : List Nat) (l : BL) : Prop := Le A H ∧ ∃ p cc, S = b :: blkL p ∧ Bd A H b p cc 0 l
section
variable {A H H' : Hp} {b : Nat} {S : List Nat} {l : BL}
theorem BdS.le (h : BdS A H b S l) (hl : Le H H') : BdS A H' b S l := by
  obtain ⟨h1, p, cc, h2, h3⟩ := h
  exact ⟨h1.trans hl, p, cc, h2, h3.le hl⟩
theorem BdS.there (h : BdS A H b S l) : ∀ x ∈ S, H x ≠ none := by
  obtain ⟨h1, p, cc, rfl, h3⟩ := h
  exact h3.there
theorem BdS.fr (h : BdS A H b S l) : ∀ x ∈ S, A x = none := by
  obtain ⟨h1, p, cc, rfl, h3⟩ := h
  exact h3.frs
theorem BdS.new (hA : A b = none) (hle : Le A H) (hH : H b = some ([.pointer none, .slice none 0 0] ++ [tyM ty_strings_Builder 0 0])) : BdS A H b [b] [] := ⟨hle, none, 0, rfl, Bd.new hA hH⟩
theorem BdS.next {p : Option Addr} {cc : Nat} {p' : Option Addr} {c' k' : Nat} {l' : BL} (_ : Bd A H b p cc 0 l) (hB' : Bd A H' b p' c' k' l') (hA' : Le A H') (hp : p' = p ∨ New H p') (hk : k' = 0) : BdS A H' b (b :: blkL p') l' ∧ ∀ x ∈ b :: blkL p', x ∈ b :: blkL p ∨ H x = none := by
  subst hk
  refine ⟨⟨hA', p', c', rfl, hB'⟩, fun x hx => ?_⟩
  rcases List.mem_cons.1 hx with rfl | hx
  · exact .inl (by simp)
  · rcases hp with rfl | hp
    · exact .inl (List.mem_cons_of_mem _ hx)
    · right
      rcases hB'.bb.2.2 with ⟨h0, _⟩ | ⟨q, _, h0, _⟩
      · rw [h0] at hx; simp [blkL] at hx
      · rw [h0] at hx hp; simp [blkL] at hx; subst hx; exact hp _ _ rfl
theorem BdS.str (h : BdS A H b S l) {s : ByteArray} (hfit : l.length + s.size ≤ 140737488355328) {K : Int → Value → Hp → Prop}
    (hK : ∀ S' H', BdS A H' b S' (l ++ L s) → Mod S H H' → (∀ x ∈ S', x ∈ S ∨ H x = none) → K (s.size : Nat) .nilIface H') : strings_Builder_WriteString.C (some ⟨b, 0, none⟩) s H K := by
  obtain ⟨h1, p, cc, rfl, h3⟩ := h
  refine strings_Builder_WriteString.c h3 h1 (.inl rfl) hfit fun p' c' k' H' hB' hA' hm hp hk => ?_
  have hk' : k' = 0 := by rcases hk with ⟨h, _⟩ | ⟨h, _⟩ <;> exact h
  obtain ⟨g1, g2⟩ := BdS.next h3 hB' hA' hp hk'
  exact hK _ H' g1 hm g2
theorem BdS.byte (h : BdS A H b S l) {x : UInt8} (hfit : l.length + 1 ≤ 140737488355328) {K : Value → Hp → Prop}
    (hK : ∀ S' H', BdS A H' b S' (l ++ [x]) → Mod S H H' → (∀ x ∈ S', x ∈ S ∨ H x = none) → K .nilIface H') : strings_Builder_WriteByte.C (some ⟨b, 0, none⟩) (x.toNat : Nat) H K := by
  obtain ⟨h1, p, cc, rfl, h3⟩ := h
  refine strings_Builder_WriteByte.c h3 h1 hfit fun p' c' H' hB' hA' hm hp => ?_
  obtain ⟨g1, g2⟩ := BdS.next h3 hB' hA' hp rfl
  exact hK _ H' g1 hm g2
theorem BdS.end (h : BdS A H b S l) (hl : l.length ≤ 140737488355328) {K : ByteArray → Hp → Prop} (hK : ∀ H', Le A H' → K (mkB l) H') : strings_Builder_String.C (some ⟨b, 0, none⟩) H K := by
  obtain ⟨h1, p, cc, rfl, h3⟩ := h
  exact strings_Builder_String.c h3 h1 (by omega) fun H' _ hA' _ => hK H' hA'
end
theorem mod_two {S S' : List Nat} {H H1 H2 : Hp} (h1 : Mod S H H1) (h2 : Mod S' H1 H2) (hs : ∀ x ∈ S', x ∈ S ∨ H x = none) : Mod S H H2 := fun x hx c e => by
  refine h2 x (fun hx' => ?_) c (h1 x hx c e)
  rcases hs x hx' with h | h
  · exact hx h
  · rw [e] at h; cases h
theorem new_two {S S' S'' : List Nat} {H H1 : Hp} (h1 : Mod S H H1) (hs : ∀ x ∈ S', x ∈ S ∨ H x = none) (hs' : ∀ x ∈ S'', x ∈ S' ∨ H1 x = none) : ∀ x ∈ S'', x ∈ S ∨ H x = none := fun x hx => by
  rcases hs' x hx with h | h
  · exact hs x h
  · by_cases hx : x ∈ S
    · exact .inl hx
    · right
      cases hh : H x with
      | none => rfl
      | some c => rw [h1 x hx c hh] at h; cases h
theorem u8_eq' {a b : UInt8} : ((a.toNat : Nat) : Int) = ((b.toNat : Nat) : Int) ↔ a = b := ⟨fun h => UInt8.toNat_inj.1 (by omega), fun h => by rw [h]⟩
/-- A line's end behind what has none. -/
def endL (l : BL) : BL := if l.getLast? = some 10 then l else l ++ [10]
def trimL (l : BL) : BL := if l.getLast? = some 10 then l.dropLast else l
theorem trim_end (l : BL) : trimL l ++ [10] = endL l := by
  unfold trimL endL
  split
  · rename_i h
    obtain ⟨h1, h2⟩ := List.getLast?_eq_some_iff.1 h
    rw [h2, List.dropLast_concat]
  · rfl
theorem trim_len (l : BL) : (trimL l).length ≤ l.length := by unfold trimL; split <;> simp
theorem end_len (l : BL) : (endL l).length ≤ l.length + 1 := by unfold endL; split <;> simp
theorem last_drop {l : BL} (h : 1 ≤ l.length) (x : UInt8) : (l.drop (l.length - 1) = [x]) ↔ l.getLast? = some x := by
  have hne : l ≠ [] := List.length_pos_iff.1 h
  rw [List.getLast?_eq_some_getLast hne]
  have h2 : l.drop (l.length - 1) = [l.getLast hne] := by
    conv => lhs; rw [← List.dropLast_concat_getLast hne]
    rw [List.drop_append_of_le_length (by simp), List.drop_of_length_le (by simp)]; rfl
  rw [h2]; simp
theorem strings_TrimSuffix.c {l : BL} {H : Hp} {K : ByteArray → Hp → Prop} (hl : l.length ≤ 9223372036854775807) (hK : K (mkB (trimL l)) H) : strings_TrimSuffix.C (mkB l) (bs [10]) H K := by
  apply strings_TrimSuffix.of
  apply internal_stringslite_TrimSuffix.of
  apply internal_stringslite_HasSuffix.of
  have hs1 : (bs [10]).size = 1 := rfl
  unfold trimL at hK
  refine bcd (fun h => ?_) fun h => ?_
  · rw [hs1, mkB_size] at h
    refine chk (by rw [hs1, mkB_size]; omega) (bnd10 (l.length - 1) (by rw [hs1, mkB_size]; omega) (by rw [mkB_size]; omega) ?_)
    rw [ext_drop]
    have hd := last_drop (by omega : 1 ≤ l.length) 10
    have e : decide (mkB (l.drop (l.length - 1)) = bs [10]) = decide (l.getLast? = some 10) := decide_eq_decide.2 (by rw [← hd, bs_mk, eq_iff_L]; rfl)
    rw [e]
    refine bcd (fun h' => ?_) fun h' => ?_
    · rw [if_pos h'] at hK
      refine chk (by rw [hs1, mkB_size]; omega) (bnd01 (l.length - 1) (by rw [hs1, mkB_size]; omega) (by rw [mkB_size]; omega) ?_)
      rw [ext_take, ← List.dropLast_eq_take]; exact hK
    · rw [if_neg h'] at hK; exact hK
  · rw [hs1, mkB_size] at h
    have : l = [] := List.length_eq_zero_iff.1 (by omega)
    subst this
    exact hK
section
variable {f : ByteArray} {lp pp : Option Addr} {ll lc pl pc : Nat} {ls : List Ln} {ps : List (Int × Int)} {H : Hp}
/-- The text of what is shown. -/
def txtL (ls : List Ln) (ps : List (Int × Int)) : BL := (shL ls ps).flatMap (·.t)
def prnL (ls : List Ln) (ps : List (Int × Int)) : BL := (shL ls ps).flatMap fun s => s.m :: endL s.t
def cnfN (ls : List Ln) (ps : List (Int × Int)) : Nat := ((shL ls ps).filter fun s => decide (s.m ≠ 32)).length
theorem flatTake_le {α : Type} {g : α → BL} {B : Nat} (l : List α) (hB : ∀ x ∈ l, (g x).length ≤ B) : (l.flatMap g).length ≤ l.length * B := by
  induction l with
  | nil => simp
  | cons x l ih =>
    rw [List.flatMap_cons, List.length_append, List.length_cons, Nat.add_mul]
    have := hB x (by simp)
    have := ih fun y hy => hB y (List.mem_cons_of_mem _ hy)
    omega
theorem shL_len : (shL ls ps).length = (ordL ls ps).length := by unfold shL; simp
theorem shL_get {i : Nat} (hi : i < (ordL ls ps).length) : (shL ls ps).take (i + 1) = (shL ls ps).take i ++ [shn ls ps (ordL ls ps)[i]] := by
  unfold shL
  rw [← List.map_take, ← List.map_take, List.take_succ_eq_append_getElem hi, List.map_append]; rfl
theorem shn_m {k : Nat} : (shn ls ps k).m = markB (rM ls ps) (alv ls).length k := rfl
theorem shn_len {k : Nat} (ht : ∀ x ∈ ls, x.t.length ≤ 1000000) : (shn ls ps k).t.length ≤ 1000000 := by
  unfold shn
  by_cases h : (alv ls).getD k 0 < ls.length
  · show (ls.getD _ _).t.length ≤ _
    rw [lnD h]; exact ht _ (List.getElem_mem h)
  · show (ls.getD _ _).t.length ≤ _
    rw [show ls.getD ((alv ls).getD k 0) ⟨0, 0, [], true⟩ = ⟨0, 0, [], true⟩ by rw [List.getD_eq_getElem?_getD, List.getElem?_eq_none (Nat.le_of_not_lt h)]; rfl]; simp
theorem view_Text.c {K : ByteArray → Bool → Hp → Prop} (hL : Sn 4 lnC H lp ll lc ls) (hP : Sn 2 pairC H pp pl pc ps) (hT : Tz H) (hll : ll ≤ 200) (hpl : pl ≤ 1000000000) (ht : ∀ x ∈ ls, x.t.length ≤ 1000000)
    (hno : linB ls ps = false → ∀ H', Le H H' → K (bs []) false H') (hyes : linB ls ps = true → ∀ H', Le H H' → K (mkB (txtL ls ps)) true H') : view_Text.C f lp ll lc pp pl pc H K := by
  apply view_Text.of
  have el := hL.len
  have ha := alv_len (ls := ls)
  obtain ⟨o1, _, _, o4⟩ := ord_spec (ls := ls) (ps := ps)
  intro b hb
  have d : D3 (upd H b [.string f, .slice lp ll lc, .slice pp pl pc]) b f lp ll lc pp pl pc := D3.new
  have le1 : Le H (upd H b [.string f, .slice lp ll lc, .slice pp pl pc]) := Le.upd hb
  generalize upd H b [.string f, .slice lp ll lc, .slice pp pl pc] = H1 at *
  refine d.get (view_Linear.c (hL.le le1) (hP.le le1) (hT.le le1) hll hpl fun H2 le2 => ?_)
  have le02 := le1.trans le2
  refine bcn (fun h => hno h H2 le02) fun h => ?_
  have hyes := hyes h
  intro m hm
  have le3 : Le H2 (upd H2 m ([.pointer none, .slice none 0 0] ++ [tyM ty_strings_Builder 0 0])) := Le.upd hm
  have rm : (upd H2 m ([.pointer none, .slice none 0 0] ++ [tyM ty_strings_Builder 0 0])) m = some ([.pointer none, .slice none 0 0] ++ [tyM ty_strings_Builder 0 0]) := by simp [upd]
  show ldS (rd (upd H2 m ([.pointer none, .slice none 0 0] ++ [tyM ty_strings_Builder 0 0])) b 0) _
  generalize upd H2 m ([.pointer none, .slice none 0 0] ++ [tyM ty_strings_Builder 0 0]) = H3 at *
  have hmH := none_of_le le02 hm
  have le03 := le02.trans le3
  have hbm : b ≠ m := fun e => (d.le le2).there (e ▸ hm)
  have d3 := (d.le le2).le le3
  refine d3.get (view_each.c fun cp H4 d4 hcp le4 => ?_)
  have le04 := le03.trans le4
  show view_each_1.I cp H4 _ _
  refine view_each_1.c d4 (hL.le le04) (hP.le le04) (hT.le le04) hll hpl (fun x hx => (o1 x).1 hx) (by omega) (fun i S Hx => BdS H Hx m S (((shL ls ps).take i).flatMap (·.t)) ∧ D3 Hx b f lp ll lc pp pl pc ∧ b ∉ S) [m] (by simp; rw [le4 m _ rm]; simp) (fun h => by simp at h; exact hT.there (h ▸ hmH)) (fun Hx hle => ?_) ?_ ?_
  · exact ⟨BdS.new hmH (le04.trans hle) (hle m _ (le4 m _ rm)), (d3.le le4).le hle, by simpa using hbm⟩
  · rintro i hi S Hx Kb ⟨hA, hd, hbS⟩ hon
    have hk := (o1 _).1 (List.getElem_mem hi)
    have hkl := aD_lt hk
    refine ldL_i hd.2.1 (sn_nil (hL.le hA.1) (by omega) (by omega) fun q o hj e => ?_)
    simp only [Int.toNat_natCast] at e ⊢
    refine ldS_i (e 2 _ rfl) (hA.str ?_ fun S' H' hA' m' g' => hon S' H' ⟨?_, hd.mod m' hbS, fun h => ?_⟩ m' g')
    · have h1 := flatTake_le (g := (·.t)) (B := 1000000) ((shL ls ps).take i) fun x hx => by
        obtain ⟨k, hk, rfl⟩ := List.mem_map.1 (List.mem_of_mem_take hx)
        exact shn_len ht
      have h2 : ((shL ls ps).take i).length ≤ 200 := by simp; rw [shL_len]; omega
      have h3 := Nat.mul_le_mul_right 1000000 h2
      have h4 : (mkB ls[(alv ls).getD (ordL ls ps)[i] 0].t).size ≤ 1000000 := ht _ (List.getElem_mem _)
      omega
    · rw [shL_get hi, List.flatMap_append]
      have e0 : ls[(alv ls).getD (ordL ls ps)[i] 0].t = (shn ls ps (ordL ls ps)[i]).t := by unfold shn; simp only [lnD hkl]
      simp only [e0, L_mk] at hA'
      simpa using hA'
    · rcases g' b h with h | h
      · exact hbS h
      · exact hd.there h
  · rintro S Hx ⟨hA, _⟩
    rw [List.take_of_length_le (by rw [shL_len]; omega)] at hA
    have h1 := flatTake_le (g := (·.t)) (B := 1000000) (shL ls ps) fun x hx => by
      obtain ⟨k, hk, rfl⟩ := List.mem_map.1 hx
      exact shn_len ht
    have h2 : (shL ls ps).length ≤ 200 := by rw [shL_len]; omega
    have h3 := Nat.mul_le_mul_right 1000000 h2
    exact alOn (hA.end (by omega) fun H' le' => hyes H' le')
theorem view_Print.c {K : ByteArray → Hp → Prop} (hL : Sn 4 lnC H lp ll lc ls) (hP : Sn 2 pairC H pp pl pc ps) (hT : Tz H) (hll : ll ≤ 200) (hpl : pl ≤ 1000000000) (ht : ∀ x ∈ ls, x.t.length ≤ 1000000)
    (hK : ∀ H', Le H H' → K (mkB (prnL ls ps)) H') : view_Print.C f lp ll lc pp pl pc H K := by
  apply view_Print.of
  have el := hL.len
  have ha := alv_len (ls := ls)
  obtain ⟨o1, _, _, o4⟩ := ord_spec (ls := ls) (ps := ps)
  intro b hb
  have d : D3 (upd H b [.string f, .slice lp ll lc, .slice pp pl pc]) b f lp ll lc pp pl pc := D3.new
  have le1 : Le H (upd H b [.string f, .slice lp ll lc, .slice pp pl pc]) := Le.upd hb
  generalize upd H b [.string f, .slice lp ll lc, .slice pp pl pc] = H2 at *
  intro m hm
  have le3 : Le H2 (upd H2 m ([.pointer none, .slice none 0 0] ++ [tyM ty_strings_Builder 0 0])) := Le.upd hm
  have rm : (upd H2 m ([.pointer none, .slice none 0 0] ++ [tyM ty_strings_Builder 0 0])) m = some ([.pointer none, .slice none 0 0] ++ [tyM ty_strings_Builder 0 0]) := by simp [upd]
  show ldS (rd (upd H2 m ([.pointer none, .slice none 0 0] ++ [tyM ty_strings_Builder 0 0])) b 0) _
  generalize upd H2 m ([.pointer none, .slice none 0 0] ++ [tyM ty_strings_Builder 0 0]) = H3 at *
  have hmH := none_of_le le1 hm
  have le03 := le1.trans le3
  have hbm : b ≠ m := fun e => d.there (e ▸ hm)
  have d3 := d.le le3
  have bnd : ∀ x ∈ shL ls ps, (x.m :: endL x.t).length ≤ 1000002 := fun x hx => by
    obtain ⟨k, hk, rfl⟩ := List.mem_map.1 hx
    have := shn_len (ps := ps) (k := k) ht
    have := end_len (shn ls ps k).t
    simp; omega
  refine d3.get (view_each.c fun cp H4 d4 hcp le4 => ?_)
  have le04 := le03.trans le4
  show view_each_1.I cp H4 _ _
  refine view_each_1.c d4 (hL.le le04) (hP.le le04) (hT.le le04) hll hpl (fun x hx => (o1 x).1 hx) (by omega) (fun i S Hx => BdS H Hx m S (((shL ls ps).take i).flatMap fun s => s.m :: endL s.t) ∧ D3 Hx b f lp ll lc pp pl pc ∧ b ∉ S) [m] (by simp; rw [le4 m _ rm]; simp) (fun h => by simp at h; exact hT.there (h ▸ hmH)) (fun Hx hle => ?_) ?_ ?_
  · exact ⟨BdS.new hmH (le04.trans hle) (hle m _ (le4 m _ rm)), (d3.le le4).le hle, by simpa using hbm⟩
  · rintro i hi S Hx Kb ⟨hA, hd, hbS⟩ hon
    have hk := (o1 _).1 (List.getElem_mem hi)
    have hkl := aD_lt hk
    have h1 := flatTake_le (g := fun s : Shn => s.m :: endL s.t) (B := 1000002) ((shL ls ps).take i) fun x hx => bnd x (List.mem_of_mem_take hx)
    have h2 : ((shL ls ps).take i).length ≤ 200 := by simp; rw [shL_len]; omega
    have h3 := Nat.mul_le_mul_right 1000002 h2
    have h4 : ls[(alv ls).getD (ordL ls ps)[i] 0].t.length ≤ 1000000 := ht _ (List.getElem_mem _)
    have h5 := trim_len ls[(alv ls).getD (ordL ls ps)[i] 0].t
    rw [markM_B]
    refine hA.byte (by omega) fun S1 Hy hA1 m1 g1 => ?_
    have hbS1 : b ∉ S1 := fun h => by
      rcases g1 b h with h | h
      · exact hbS h
      · exact hd.there h
    have hd1 := hd.mod m1 hbS
    refine ldL_i hd1.2.1 (sn_nil (hL.le hA1.1) (by omega) (by omega) fun q o hj e => ?_)
    simp only [Int.toNat_natCast] at e ⊢
    refine ldS_i (e 2 _ rfl) (strings_TrimSuffix.c (by omega) ⟨?_, hA1.str ?_ fun S' H' hA' m' g' => hon S' H' ⟨?_, hd1.mod m' hbS1, fun h => ?_⟩ (mod_two m1 m' g1) (new_two m1 g1 g')⟩)
    · have : (bs [10]).size = 1 := rfl
      rw [mkB_size, this]; omega
    · have : (mkB (trimL ls[(alv ls).getD (ordL ls ps)[i] 0].t) ++ bs [10]).size = (trimL ls[(alv ls).getD (ordL ls ps)[i] 0].t).length + 1 := by rw [L_size, L_append]; simp
      rw [this, List.length_append, List.length_singleton]; omega
    · rw [shL_get hi, List.flatMap_append]
      have e0 : ls[(alv ls).getD (ordL ls ps)[i] 0].t = (shn ls ps (ordL ls ps)[i]).t := by unfold shn; simp only [lnD hkl]
      rw [L_append, L_mk, L_bs, trim_end, e0, List.append_assoc] at hA'
      rw [List.flatMap_singleton, shn_m]
      exact hA'
    · rcases g' b h with h | h
      · exact hbS1 h
      · exact hd1.there h
  · rintro S Hx ⟨hA, _⟩
    rw [List.take_of_length_le (by rw [shL_len]; omega)] at hA
    have h1 := flatTake_le (g := fun s : Shn => s.m :: endL s.t) (B := 1000002) (shL ls ps) bnd
    have h2 : (shL ls ps).length ≤ 200 := by rw [shL_len]; omega
    have h3 := Nat.mul_le_mul_right 1000002 h2
    exact alOn (hA.end (by omega) fun H' le' => hK H' le')
theorem view_Conflicts.c {K : Int → Hp → Prop} (hL : Sn 4 lnC H lp ll lc ls) (hP : Sn 2 pairC H pp pl pc ps) (hT : Tz H) (hll : ll ≤ 200) (hpl : pl ≤ 1000000000)
    (hK : ∀ H', Le H H' → K (cnfN ls ps : Nat) H') : view_Conflicts.C f lp ll lc pp pl pc H K := by
  apply view_Conflicts.of
  have el := hL.len
  have ha := alv_len (ls := ls)
  obtain ⟨o1, _, _, o4⟩ := ord_spec (ls := ls) (ps := ps)
  intro b hb
  have d : D3 (upd H b [.string f, .slice lp ll lc, .slice pp pl pc]) b f lp ll lc pp pl pc := D3.new
  have le1 : Le H (upd H b [.string f, .slice lp ll lc, .slice pp pl pc]) := Le.upd hb
  generalize upd H b [.string f, .slice lp ll lc, .slice pp pl pc] = H2 at *
  intro m hm
  refine ST_upd rfl ?_
  have le3 : Le H2 (upd H2 m ([.int .i64 (0 : Int)].set 0 (.int .i64 (0 : Int)))) := Le.upd hm
  have rm : rd (upd H2 m ([.int .i64 (0 : Int)].set 0 (.int .i64 (0 : Int)))) m 0 = some (.int .i64 ((0 : Nat) : Int)) := by rw [rd_upd_self]; rfl
  generalize upd H2 m ([.int .i64 (0 : Int)].set 0 (.int .i64 (0 : Int))) = H3 at *
  have hmH := none_of_le le1 hm
  have le03 := le1.trans le3
  have d3 := d.le le3
  refine d3.get (view_each.c fun cp H4 d4 hcp le4 => ?_)
  have le04 := le03.trans le4
  show view_each_1.I cp H4 _ _
  refine view_each_1.c d4 (hL.le le04) (hP.le le04) (hT.le le04) hll hpl (fun x hx => (o1 x).1 hx) (by omega) (fun i S Hx => S = [m] ∧ Le H Hx ∧ rd Hx m 0 = some (.int .i64 ((((shL ls ps).take i).filter fun s => decide (s.m ≠ 32)).length : Nat))) [m] (by simpa using ne_none_of_rd (le4.rd rm)) (fun h => by simp at h; exact hT.there (h ▸ hmH)) (fun Hx hle => ?_) ?_ ?_
  · exact ⟨rfl, le04.trans hle, (le4.trans hle).rd rm⟩
  · rintro i hi S Hx Kb ⟨rfl, hl, hr⟩ hon
    have hcl : (((shL ls ps).take i).filter fun s => decide (s.m ≠ 32)).length ≤ 200 := Nat.le_trans (List.length_filter_le _ _) (by simp; rw [shL_len]; omega)
    have hs : ∀ s : Shn, s.m = markB (rM ls ps) (alv ls).length (ordL ls ps)[i] → ((((s.m.toNat : Nat) : Int) = 32) ↔ s.m = 32) := fun s _ => u8_eq' (b := 32)
    rw [markM_B]
    have hm : (shn ls ps (ordL ls ps)[i]).m = markB (rM ls ps) (alv ls).length (ordL ls ps)[i] := rfl
    refine bcd (fun hne => ?_) fun hne => ?_
    · refine ldI_i hr (chk (by omega) (st hr (hon [m] _ ⟨rfl, hl.wr hmH, ?_⟩ (Mod.refl.wr (.inl (by simp))) fun x hx => .inl hx)))
      rw [shL_get hi, List.filter_append, List.filter_cons_of_pos (by rw [decide_eq_true_eq, ne_eq, ← hs _ hm, hm]; exact hne)]
      rw [rd_wr_self hr, List.length_append]; rfl
    · refine hon [m] _ ⟨rfl, hl, ?_⟩ Mod.refl fun x hx => .inl hx
      rw [shL_get hi, List.filter_append, List.filter_cons_of_neg (by rw [decide_eq_true_eq, ne_eq, ← hs _ hm, hm]; exact hne)]
      simpa using hr
  · rintro S Hx ⟨_, hl, hr⟩
    rw [List.take_of_length_le (by rw [shL_len]; omega)] at hr
    exact alOn (ldI_i hr (hK Hx hl))
end
end Go.Proofs.YteijgmmjgbgffaaDoor
namespace Go.Proofs.YteijgmmjgbgffaaDoor
open Go.V
/-! ### The document's views -/
theorem getD_Lq {s : ByteArray} {k : Nat} (h : k < s.size) : s.data.toList.getD k 0 = (L s)[k]'(by rw [← L_size]; exact h) := by
  have : k < (L s).length := by rw [← L_size]; exact h
  show (L s).getD k 0 = _
  simp [List.getD, this]
section
variable {f : ByteArray} {lp pp : Option Addr} {ll lc pl pc : Nat} {ls : List Ln} {ps : List (Int × Int)} {H : Hp}
theorem centoref12_Order.c {K : Option Addr → Nat → Nat → Hp → Prop} (hL : Sn 4 lnC H lp ll lc ls) (hP : Sn 2 pairC H pp pl pc ps) (hll : ll ≤ 200) (hpl : pl ≤ 1000000000)
    (hK : ∀ p l c H', Buf 1 H H' p l c ((ordP ls ps).map iv) → Le H H' → K p l c H') : centoref12_Order.C f lp ll lc pp pl pc H K := by
  apply centoref12_Order.of
  have el := hL.len
  have ha := alv_len (ls := ls)
  obtain ⟨o1, _, _, o4⟩ := ord_spec (ls := ls) (ps := ps)
  intro b hb
  have d : D3 (upd H b [.string f, .slice lp ll lc, .slice pp pl pc]) b f lp ll lc pp pl pc := D3.new
  have le1 : Le H (upd H b [.string f, .slice lp ll lc, .slice pp pl pc]) := Le.upd hb
  generalize upd H b [.string f, .slice lp ll lc, .slice pp pl pc] = H1 at *
  refine d.get (centoref12_rel.c (hL.le le1) (hP.le le1) hll hpl fun p l c m O H2 s2 u2 _ le2 => ?_)
  refine centoref2_Rel_Sort.c u2 fun p3 l3 c3 H3 s3 le3 => ?_
  have s3 : Sl iv H3 p3 l3 c3 (ordL ls ps) := s3
  have sl3 := s3.len
  have le03 := (le1.trans le2).trans le3
  have s23 := s2.le le3
  refine ⟨fun op ol oc t Hx => ∃ i : Nat, t = (i : Nat) ∧ i ≤ l3 ∧ Le H3 Hx ∧ Buf 1 H3 Hx op ol oc (((ordP ls ps).take i).map iv), fun _ _ _ t _ => ((l3 : Int) - t).toNat, ⟨0, rfl, Nat.zero_le _, Le.refl _, Buf.none⟩, ?_⟩
  rintro op ol oc t Hx ⟨i, rfl, gi, lex, hB⟩
  refine bcd (fun hlt => ?_) fun hlt => ?_
  · have hi : i < (ordL ls ps).length := by omega
    have hk := (o1 _).1 (List.getElem_mem hi)
    refine slI (s3.le lex) (fun _ => rfl) (by omega) hlt fun _ => ?_
    simp only [Int.toNat_natCast]
    refine slI (s23.le lex) (fun _ => rfl) (by omega) (by have := s2.len; omega) fun _ => ?_
    simp only [Int.toNat_natCast]
    have hl := hB.1
    rw [List.length_map, List.length_take] at hl
    have hs : (ordP ls ps).take (i + 1) = (ordP ls ps).take i ++ [(alv ls)[(ordL ls ps)[i]]] := by
      unfold ordP
      rw [← List.map_take, ← List.map_take, List.take_succ_eq_append_getElem hi, List.map_append, List.map_singleton, aD hk]
    refine hB.pushM (te := te_int) (new := [iv (alv ls)[(ordL ls ps)[i]]]) rfl (by decide) rfl (by decide) rfl rfl (by simp [te_int]; omega) (fun p' c' H5 hB5 hp m5 => ?_) lex
    exact chk (by omega) ⟨⟨i + 1, by omega, by omega, m5.le lex fun x hx => hB.fr x 0 (blkL_mem hB.zero hx), by rw [hs, List.map_append]; exact hB5⟩, by first | omega | (dsimp only; omega)⟩
  · rw [List.take_of_length_le (by unfold ordP; simp; omega)] at hB
    exact hK op ol oc Hx (hB.base fun b _ e => none_of_le le03 e) (le03.trans lex)
theorem apartM_succ {M : Nat → Nat → Bool} {k i : Nat} : apartM M (k + 1) i = (apartM M k i || (decide (k ≠ i) && (!M i k && !M k i))) := by
  unfold apartM; rw [List.range_succ, List.any_append]; simp
theorem centoref12_Show.c {K : Option Addr → Nat → Nat → Hp → Prop} (hL : Sn 4 lnC H lp ll lc ls) (hP : Sn 2 pairC H pp pl pc ps) (hll : ll ≤ 200) (hpl : pl ≤ 1000000000)
    (hK : ∀ p l c H', Buf 4 H H' p l c ((shL ls ps).flatMap shC) → Le H H' → K p l c H') : centoref12_Show.C f lp ll lc pp pl pc H K := by
  apply centoref12_Show.of
  have el := hL.len
  have ha := alv_len (ls := ls)
  obtain ⟨o1, _, _, o4⟩ := ord_spec (ls := ls) (ps := ps)
  intro b hb
  have d : D3 (upd H b [.string f, .slice lp ll lc, .slice pp pl pc]) b f lp ll lc pp pl pc := D3.new
  have le1 : Le H (upd H b [.string f, .slice lp ll lc, .slice pp pl pc]) := Le.upd hb
  generalize upd H b [.string f, .slice lp ll lc, .slice pp pl pc] = H1 at *
  refine d.get (centoref12_rel.c (hL.le le1) (hP.le le1) hll hpl fun p l c m O H2 s2 u2 _ le2 => ?_)
  refine centoref2_Rel_Sort.c u2 fun p3 l3 c3 H3 s3 le3 => ?_
  have s3 : Sl iv H3 p3 l3 c3 (ordL ls ps) := s3
  have sl3 := s3.len
  have sl2 := s2.len
  have le03 := (le1.trans le2).trans le3
  have s23 := s2.le le3
  have d3 := (d.le le2).le le3
  have hL3 := hL.le le03
  obtain ⟨B, bsm, _, u3⟩ := u2.le le3
  refine ⟨fun op ol oc t Hx => ∃ i : Nat, t = (i : Nat) ∧ i ≤ l3 ∧ Le H3 Hx ∧ Buf 4 H3 Hx op ol oc (((shL ls ps).take i).flatMap shC), fun _ _ _ t _ => ((l3 : Int) - t).toNat, ⟨0, rfl, Nat.zero_le _, Le.refl _, Buf.none⟩, ?_⟩
  rintro op ol oc t Hx ⟨i, rfl, gi, lex, hB⟩
  refine bcd (fun hlt => ?_) fun hlt => ?_
  · have hi : i < (ordL ls ps).length := by omega
    have hk := (o1 _).1 (List.getElem_mem hi)
    have hkl := alv_lt hk
    have s3x := s3.le lex
    have s2x := s23.le lex
    obtain ⟨b3, o3, e3, r3⟩ := s3x.at hi
    obtain ⟨b2, o2, e2, r2⟩ := s2x.at hk
    obtain ⟨bL, oL, eL, rL⟩ : ∃ b o, lp = some ⟨b, o, none⟩ ∧ ∀ i (h : i < ls.length) j v, (lnC ls[i])[j]? = some v → rd Hx b (o + i * 4 + j) = some v := by
      rcases ((hL3.le lex).2.2) with h | h
      · exact absurd (by rw [h]; rfl : ls.length = 0) (by omega)
      · exact h
    subst e3 e2 eL
    have rLk := rL _ hkl
    refine ldL_i (d3.le lex).2.1 (idxN i rfl (by omega) (nil (ldI_i (r3 i hi) (idxN _ rfl (by omega) (nil (ldI_i (r2 _ hk) (idxN _ rfl (by omega) (nil ?_))))))))
    refine ldI_i (rLk 0 _ rfl) (ldI_i (rLk 1 _ rfl) (ldS_i (rLk 2 _ rfl) (ldB_i (rLk 3 _ rfl) ?_)))
    intro q hq
    have leq := Le.upd (c := [.int .u32 (0 : Int), .int .i64 (0 : Int), .string .empty, .bool false]) hq
    refine ⟨leq.rd (rLk 0 _ rfl), leq.rd (rLk 1 _ rfl), leq.rd (rLk 2 _ rfl), leq.rd (rLk 3 _ rfl), leq.rd (r2 _ hk), leq.rd (r3 i hi), leq.rd (d3.le lex).2.1, ?_⟩
    refine ST_upd rfl (ST_upd rfl (ST_upd rfl (ST_upd rfl ?_)))
    generalize hH4 : upd Hx q _ = H4
    have le4 : Le Hx H4 := by rw [← hH4]; exact Le.upd hq
    have t0 : rd H4 q 0 = some (.int .u32 ls[(alv ls)[(ordL ls ps)[i]]].p) := by rw [← hH4, rd_upd_self]; rfl
    have t1 : rd H4 q 1 = some (.int .i64 ls[(alv ls)[(ordL ls ps)[i]]].n) := by rw [← hH4, rd_upd_self]; rfl
    have t2 : rd H4 q 2 = some (sv ls[(alv ls)[(ordL ls ps)[i]]].t) := by rw [← hH4, rd_upd_self]; rfl
    clear hH4
    have u4 : RF H4 m B bsm (alv ls).length (rM ls ps) := u3.mod (O := []) (lex.trans le4).mod (by simp)
    have hlim := u4.lim
    have s34 := s3x.le le4
    have hB4 := hB.le le4
    have hgo : ∀ mk : UInt8, mk = (shn ls ps (ordL ls ps)[i]).m → centoref12_Show.k1 Hx (fun op ol oc t Hx => ∃ i : Nat, t = (i : Nat) ∧ i ≤ l3 ∧ Le H3 Hx ∧ Buf 4 H3 Hx op ol oc (((shL ls ps).take i).flatMap shC)) q ((i : Nat) : Int) (fun _ _ _ t _ => ((l3 : Int) - t).toNat) oc ol op ((mk.toNat : Nat) : Int) H4 := by
      intro mk hmk
      have hl := hB.1
      rw [flatMap_len shC_len, List.length_take] at hl
      refine ldI_i t0 (ldI_i t1 (ldS_i t2 ?_))
      have e1 : shC (shn ls ps (ordL ls ps)[i]) = [.int .u32 ls[(alv ls)[(ordL ls ps)[i]]].p, .int .i64 ls[(alv ls)[(ordL ls ps)[i]]].n, .int .u8 ((mk.toNat : Nat) : Int), sv ls[(alv ls)[(ordL ls ps)[i]]].t] := by
        rw [hmk]; unfold shC shn; simp only [aD hk, lnD hkl]
      refine hB4.pushM (te := te_api_Shown) (new := [.int .u32 ls[(alv ls)[(ordL ls ps)[i]]].p, .int .i64 ls[(alv ls)[(ordL ls ps)[i]]].n, .int .u8 ((mk.toNat : Nat) : Int), sv ls[(alv ls)[(ordL ls ps)[i]]].t]) rfl (by decide) rfl (by decide) rfl rfl (by show (_ + 1) * te_api_Shown.bytes ≤ _; simp [te_api_Shown]; omega) (fun p' c' H5 hB5 hp m5 => ?_) (lex.trans le4)
      refine chk (by omega) ⟨⟨i + 1, by omega, by omega, m5.le (lex.trans le4) fun x hx => hB.fr x 0 (blkL_mem hB.zero hx), ?_⟩, by first | omega | (dsimp only; omega)⟩
      rw [shL_get hi, List.flatMap_append, List.flatMap_singleton, e1]; exact hB5
    have hm0 : (shn ls ps (ordL ls ps)[i]).m = markB (rM ls ps) (alv ls).length (ordL ls ps)[i] := rfl
    unfold markB at hm0
    refine ⟨fun mq t Hy => ∃ k : Nat, t = (k : Nat) ∧ k ≤ (alv ls).length ∧ Hy = H4 ∧ mq = (((if apartM (rM ls ps) k (ordL ls ps)[i] then (63 : UInt8) else 32).toNat : Nat) : Int), fun _ t _ => (((alv ls).length : Int) - t).toNat, ⟨0, rfl, Nat.zero_le _, rfl, by unfold apartM; rfl⟩, ?_⟩
    rintro mq t Hy ⟨k, rfl, gk, rfl, rfl⟩
    refine nil (ldI_i u4.hn (bcd (fun hlt' => ?_) fun hlt' => ?_))
    · have hkn : k < (alv ls).length := by omega
      have next : ∀ v : UInt8, v = (if apartM (rM ls ps) (k + 1) (ordL ls ps)[i] then (63 : UInt8) else 32) → CHK .i64 ((k : Int) + 1) fun x => (∃ k' : Nat, x = (k' : Nat) ∧ k' ≤ (alv ls).length ∧ Hy = Hy ∧ ((v.toNat : Nat) : Int) = (((if apartM (rM ls ps) k' (ordL ls ps)[i] then (63 : UInt8) else 32).toNat : Nat) : Int)) ∧ (((alv ls).length : Int) - x).toNat < (((alv ls).length : Int) - (k : Int)).toNat := fun v hv =>
        chk (by omega) ⟨⟨k + 1, by omega, by omega, rfl, by rw [hv]⟩, by omega⟩
      refine idxN i rfl (by omega) (nil (ldI_i (s34.at hi |> fun ⟨b, o, e, r⟩ => by cases e; exact r i hi) ?_))
      refine bcd (fun hne => ?_) fun hne => next _ (by rw [apartM_succ, decide_eq_false (by omega), Bool.false_and, Bool.or_false])
      refine u4.rowAt rfl hkn (idxN i rfl (by omega) (nil (ldI_i (s34.at hi |> fun ⟨b, o, e, r⟩ => by cases e; exact r i hi) (idxN (ordL ls ps)[i] rfl hk (nil (ldB_i (by rw [Nat.zero_add]; exact u4.row k (by rw [u4.lb]; exact hkn) _ hk) ?_))))))
      refine bcn (fun h1 => ?_) fun h1 => next _ (by rw [apartM_succ, h1]; simp)
      refine nil ?_
      obtain ⟨pm, cm, g1, g2, g3⟩ := u4.hm
      obtain rfl := g3.resolve_left (by omega)
      refine ldL_i (by rw [Nat.zero_add]; exact g1) (idxN i rfl (by omega) (nil (ldI_i (s34.at hi |> fun ⟨b, o, e, r⟩ => by cases e; exact r i hi) (idxN (ordL ls ps)[i] rfl hk (nil (ldL_i (by rw [Nat.zero_add]; exact u4.ptr _ (by rw [u4.lb]; exact hk)) (idxN k rfl hkn (nil (ldB_i (by rw [Nat.zero_add]; exact u4.row _ (by rw [u4.lb]; exact hk) k hkn) ?_)))))))))
      refine bcn (fun h2 => ?_) fun h2 => next _ (by rw [apartM_succ, h2]; simp)
      exact next 63 (by rw [apartM_succ, h1, h2, decide_eq_true (by omega)]; simp)
    · have : k = (alv ls).length := by omega
      subst this
      refine nil ?_
      obtain ⟨pm, cm, g1, g2, g3⟩ := u4.hm
      obtain rfl := g3.resolve_left (by omega)
      refine ldL_i (by rw [Nat.zero_add]; exact g1) (idxN i rfl (by omega) (nil (ldI_i (s34.at hi |> fun ⟨b, o, e, r⟩ => by cases e; exact r i hi) (idxN (ordL ls ps)[i] rfl hk (nil (ldL_i (by rw [Nat.zero_add]; exact u4.ptr _ (by rw [u4.lb]; exact hk)) ?_))))))
      refine idxN i rfl (by omega) (nil (ldI_i (s34.at hi |> fun ⟨b, o, e, r⟩ => by cases e; exact r i hi) (idxN (ordL ls ps)[i] rfl hk (nil (ldB_i (by rw [Nat.zero_add]; exact u4.row _ (by rw [u4.lb]; exact hk) _ hk) ?_)))))
      refine bc_i (fun h => ?_) fun h => ?_
      · exact hgo 33 (by rw [hm0, h, if_pos rfl])
      · exact hgo _ (by rw [hm0]; simp only [h, Bool.false_eq_true, if_false])
  · rw [List.take_of_length_le (by rw [shL_len]; omega)] at hB
    exact hK op ol oc Hx (hB.base fun b _ e => none_of_le le03 e) (le03.trans lex)
theorem centoref12_Text.c {K : ByteArray → Bool → Hp → Prop} (hL : Sn 4 lnC H lp ll lc ls) (hP : Sn 2 pairC H pp pl pc ps) (hll : ll ≤ 200) (hpl : pl ≤ 1000000000) (ht : ∀ x ∈ ls, x.t.length ≤ 1000000)
    (hno : linB ls ps = false → ∀ H', Le H H' → K (bs []) false H') (hyes : linB ls ps = true → ∀ H', Le H H' → K (mkB (txtL ls ps)) true H') : centoref12_Text.C f lp ll lc pp pl pc H K := by
  apply centoref12_Text.of
  have el := hL.len
  have ha := alv_len (ls := ls)
  obtain ⟨o1, _, _, o4⟩ := ord_spec (ls := ls) (ps := ps)
  intro b hb
  have d : D3 (upd H b [.string f, .slice lp ll lc, .slice pp pl pc]) b f lp ll lc pp pl pc := D3.new
  have le1 : Le H (upd H b [.string f, .slice lp ll lc, .slice pp pl pc]) := Le.upd hb
  generalize upd H b [.string f, .slice lp ll lc, .slice pp pl pc] = H1 at *
  refine d.get (centoref12_Linear.c (hL.le le1) (hP.le le1) hll hpl fun H2 le2 => ?_)
  have le02 := le1.trans le2
  refine bcn (fun h => hno h H2 le02) fun h => ?_
  have hyes := hyes h
  refine (d.le le2).get (centoref12_Order.c (hL.le le02) (hP.le le02) hll hpl fun p l c H3 hB3 le3 => ?_)
  have le03 := le02.trans le3
  have d3 := (d.le le2).le le3
  have s3 := hB3.sl
  have sl := s3.len
  have ol : (ordP ls ps).length = (ordL ls ps).length := by unfold ordP; simp
  refine ⟨fun s t Hx => ∃ i : Nat, t = (i : Nat) ∧ i ≤ l ∧ Hx = H3 ∧ s = mkB (((shL ls ps).take i).flatMap (·.t)), fun _ t _ => ((l : Int) - t).toNat, ⟨0, rfl, Nat.zero_le _, rfl, rfl⟩, ?_⟩
  rintro s t Hx ⟨i, rfl, gi, rfl, rfl⟩
  refine bcd (fun hlt => ?_) fun hlt => ?_
  · have hi : i < (ordL ls ps).length := by omega
    have hk := (o1 _).1 (List.getElem_mem hi)
    have hkl := aD_lt hk
    have eo : (ordP ls ps)[i]'(by omega) = (alv ls).getD (ordL ls ps)[i] 0 := by unfold ordP; simp
    refine ldL_i d3.2.1 (slI s3 (fun _ => rfl) (by omega) hlt fun _ => ?_)
    simp only [Int.toNat_natCast]
    rw [eo]
    refine sn_nil (hL.le le03) (by omega) (by omega) fun q o hj e => ?_
    simp only [Int.toNat_natCast] at e ⊢
    refine ldS_i (e 2 _ rfl) ⟨?_, chk (by omega) ⟨⟨i + 1, by omega, by omega, by trivial, ?_⟩, by first | omega | (dsimp only; omega)⟩⟩
    · have h1 := flatTake_le (g := (·.t)) (B := 1000000) ((shL ls ps).take i) fun x hx => by
        obtain ⟨k, hk, rfl⟩ := List.mem_map.1 (List.mem_of_mem_take hx)
        exact shn_len ht
      have h2 : ((shL ls ps).take i).length ≤ 200 := by simp; rw [shL_len]; omega
      have h3 := Nat.mul_le_mul_right 1000000 h2
      have h4 : ls[(alv ls).getD (ordL ls ps)[i] 0].t.length ≤ 1000000 := ht _ (List.getElem_mem _)
      rw [mkB_size, mkB_size]
      omega
    · have e0 : ls[(alv ls).getD (ordL ls ps)[i] 0].t = (shn ls ps (ordL ls ps)[i]).t := by unfold shn; simp only [lnD hkl]
      rw [shL_get hi, List.flatMap_append, List.flatMap_singleton, e0, eq_iff_L, L_append]; rfl
  · rw [List.take_of_length_le (by rw [shL_len]; omega)]
    exact hyes Hx le03
/-- Bytes that were just put down. -/
theorem bts_one {b : Nat} {x : UInt8} {tl : List Value} {H : Hp} {F : ByteArray → Prop} (hF : F (mkB [x])) : BTS (upd H b ([.int .u8 ((x.toNat : Nat) : Int)] ++ tl)) (some ⟨b, 0, none⟩) 1 F := by
  refine ⟨[x], rfl, fun i y e => ?_, hF⟩
  cases i with
  | zero => simp at e; subst e; rw [rd_upd_self]; rfl
  | succ i => simp at e
theorem centoref12_Print.c {K : ByteArray → Hp → Prop} (hL : Sn 4 lnC H lp ll lc ls) (hP : Sn 2 pairC H pp pl pc ps) (hll : ll ≤ 200) (hpl : pl ≤ 1000000000) (ht : ∀ x ∈ ls, x.t.length ≤ 1000000)
    (hK : ∀ H', Le H H' → K (mkB (prnL ls ps)) H') : centoref12_Print.C f lp ll lc pp pl pc H K := by
  apply centoref12_Print.of
  have el := hL.len
  have ha := alv_len (ls := ls)
  obtain ⟨o1, _, _, o4⟩ := ord_spec (ls := ls) (ps := ps)
  intro b hb
  have d : D3 (upd H b [.string f, .slice lp ll lc, .slice pp pl pc]) b f lp ll lc pp pl pc := D3.new
  have le1 : Le H (upd H b [.string f, .slice lp ll lc, .slice pp pl pc]) := Le.upd hb
  generalize upd H b [.string f, .slice lp ll lc, .slice pp pl pc] = H1 at *
  have bnd : ∀ x ∈ shL ls ps, (x.m :: endL x.t).length ≤ 1000002 := fun x hx => by
    obtain ⟨k, hk, rfl⟩ := List.mem_map.1 hx
    have := shn_len (ps := ps) (k := k) ht
    have := end_len (shn ls ps k).t
    simp; omega
  refine d.get (centoref12_Show.c (hL.le le1) (hP.le le1) hll hpl fun p l c H2 hB2 le2 => ?_)
  have le02 := le1.trans le2
  have s2 := hB2.sn shC_len (by decide)
  have sl := s2.len
  have shl := shL_len (ls := ls) (ps := ps)
  refine ⟨fun s t Hx => ∃ i : Nat, t = (i : Nat) ∧ i ≤ l ∧ Le H2 Hx ∧ s = mkB (((shL ls ps).take i).flatMap fun s => s.m :: endL s.t), fun _ t _ => ((l : Int) - t).toNat, ⟨0, rfl, Nat.zero_le _, Le.refl _, rfl⟩, ?_⟩
  rintro s t Hx ⟨i, rfl, gi, lex, rfl⟩
  refine bcd (fun hlt => ?_) fun hlt => ?_
  · have hi : i < (shL ls ps).length := by omega
    have hbi := bnd _ (List.getElem_mem hi)
    have h1 := flatTake_le (g := fun s : Shn => s.m :: endL s.t) (B := 1000002) ((shL ls ps).take i) fun x hx => bnd x (List.mem_of_mem_take hx)
    have h2 : ((shL ls ps).take i).length ≤ 200 := by simp; rw [shL_len]; omega
    have h3 := Nat.mul_le_mul_right 1000002 h2
    have hgo : centoref12_Print.k1 Hx (fun s t Hx => ∃ i : Nat, t = (i : Nat) ∧ i ≤ l ∧ Le H2 Hx ∧ s = mkB (((shL ls ps).take i).flatMap fun s => s.m :: endL s.t)) ((i : Nat) : Int) (fun _ t _ => ((l : Int) - t).toNat) l p (mkB (((shL ls ps).take i).flatMap fun s => s.m :: endL s.t)) (mkB (endL (shL ls ps)[i].t)) Hx := by
      refine sn_nil (s2.le lex) (by omega) hlt fun q o hj e => ?_
      simp only [Int.toNat_natCast] at e ⊢
      refine ldI_i (e 2 _ rfl) fun b' hb' => bts_one ⟨?_, ?_, chk (by omega) ⟨⟨i + 1, by omega, by omega, lex.trans (Le.upd hb'), ?_⟩, by first | omega | (dsimp only; omega)⟩⟩
      · rw [mkB_size, mkB_size]; simp only [List.length_cons, List.length_nil, List.length_append] at hbi ⊢; omega
      · rw [L_size, L_append, L_mk, L_mk, mkB_size]; simp only [List.length_cons, List.length_nil, List.length_append] at hbi ⊢; omega
      · rw [List.take_succ_eq_append_getElem hi, List.flatMap_append, List.flatMap_singleton, eq_iff_L, L_append, L_append]; simp
    refine sn_nil (s2.le lex) (by omega) hlt fun q o hj e => ?_
    simp only [Int.toNat_natCast] at e ⊢
    refine ldS_i (e 3 _ rfl) ?_
    rw [mkB_size]
    have hb1 : (bs [10]).size = 1 := rfl
    have hle : (shL ls ps)[i].t.length ≤ 1000000 := by
      obtain ⟨k, _, hk⟩ := List.mem_map.1 (List.getElem_mem hi)
      rw [← hk]; exact shn_len ht
    have hadd : (shL ls ps)[i].t.getLast? ≠ some 10 → mkB (shL ls ps)[i].t ++ bs [10] = mkB (endL (shL ls ps)[i].t) := fun h => by
      rw [eq_iff_L, L_append]; unfold endL; rw [if_neg h]; rfl
    refine bcd (fun h => ⟨by rw [hb1]; omega, ?_⟩) fun h => ?_
    · rw [hadd (by rw [List.length_eq_zero_iff.1 (by omega : (shL ls ps)[i].t.length = 0)]; simp)]
      exact hgo
    · refine chk (by omega) (idxN ((shL ls ps)[i].t.length - 1) (by omega) (by omega) ?_)
      rw [getD_Lq (by rw [mkB_size]; omega)]
      have hlast := last_drop (l := (shL ls ps)[i].t) (by omega) 10
      have hg : (shL ls ps)[i].t.getLast? = some ((L (mkB (shL ls ps)[i].t))[(shL ls ps)[i].t.length - 1]'(by rw [L_mk]; omega)) := by
        rw [List.getLast?_eq_getElem?, List.getElem?_eq_getElem (by omega)]; rfl
      refine bcd (fun h => ⟨by rw [hb1]; omega, ?_⟩) fun h => ?_
      · rw [hadd fun e => h (by rw [hg] at e; simp only [Option.some.injEq] at e; rw [e]; rfl)]
        exact hgo
      · have h := u8_eq' (b := 10) |>.1 (Classical.not_not.1 h)
        have e : (shL ls ps)[i].t = endL (shL ls ps)[i].t := by unfold endL; rw [if_pos (by rw [hg, h])]
        conv => arg 8; rw [e]
        exact hgo
  · rw [List.take_of_length_le (by omega)]
    exact hK Hx (le02.trans lex)
end
end Go.Proofs.YteijgmmjgbgffaaDoor
namespace Go.Proofs.YteijgmmjgbgffaaDoor
open Go.V
/-! ### Few; the example -/
section
variable {f : ByteArray} {lp pp : Option Addr} {ll lc pl pc : Nat} {ls : List Ln} {ps : List (Int × Int)} {H : Hp}
theorem D3.mk {q0 : ByteArray} {a0 b0 : Option Addr} {a1 a2 b1 b2 : Nat} {F : Nat → Hp → Prop} (hF : ∀ q H', H q = none → D3 H' q f lp ll lc pp pl pc → Le H H' → F q H') :
    NEW H [.string q0, .slice a0 a1 a2, .slice b0 b1 b2] fun q H1 => ST H1 q 0 (.string f) fun H2 => ST H2 q 1 (.slice lp ll lc) fun H3 => ST H3 q 2 (.slice pp pl pc) fun H4 => F q H4 :=
  fun q hq => ST_upd rfl (ST_upd rfl (ST_upd rfl (hF q _ hq D3.new (Le.upd hq))))
theorem D3.set2 {b : Nat} (h : D3 H b f lp ll lc pp pl pc) {qp : Option Addr} {ql qc : Nat} {F : Hp → Prop} (hF : ∀ H', D3 H' b f lp ll lc qp ql qc → Mod [b] H H' → F H') : ST H b 2 (.slice qp ql qc) F :=
  st h.2.2 (hF _ ⟨by rw [rd_wr_off (by decide)]; exact h.1, by rw [rd_wr_off (by decide)]; exact h.2.1, rd_wr_self h.2.2⟩ (Mod.refl.wr (.inl (by simp))))
theorem D3.set1 {b : Nat} (h : D3 H b f lp ll lc pp pl pc) {qp : Option Addr} {ql qc : Nat} {F : Hp → Prop} (hF : ∀ H', D3 H' b f qp ql qc pp pl pc → Mod [b] H H' → F H') : ST H b 1 (.slice qp ql qc) F :=
  st h.2.1 (hF _ ⟨by rw [rd_wr_off (by decide)]; exact h.1, rd_wr_self h.2.1, by rw [rd_wr_off (by decide)]; exact h.2.2⟩ (Mod.refl.wr (.inl (by simp))))
def fewV (ls : List Ln) (ps : List (Int × Int)) : Bool := ls.all (fun x => decide (x.t.length ≤ 100)) && (decide (ls.length ≤ 45) && decide (ps.length ≤ 200))
theorem fewV_len (h : fewV ls ps = true) : ls.length ≤ 45 ∧ ps.length ≤ 200 ∧ ∀ x ∈ ls, x.t.length ≤ 1000000 := by
  unfold fewV at h
  rw [Bool.and_eq_true, Bool.and_eq_true, decide_eq_true_eq, decide_eq_true_eq, List.all_eq_true] at h
  exact ⟨h.2.1, h.2.2, fun x hx => by have := h.1 x hx; rw [decide_eq_true_eq] at this; omega⟩
theorem centolaw14_few.c {K : Bool → Hp → Prop} (hL : Sn 4 lnC H lp ll lc ls) (hP : Sn 2 pairC H pp pl pc ps) (hll : ll ≤ maxLen) (hK : ∀ H', Le H H' → K (fewV ls ps) H') : centolaw14_few.C f lp ll lc pp pl pc H K := by
  apply centolaw14_few.of
  have el := hL.len
  have ep := hP.len
  have hml : maxLen ≤ 9223372036854775807 := by decide
  intro b hb
  have d : D3 (upd H b [.string f, .slice lp ll lc, .slice pp pl pc]) b f lp ll lc pp pl pc := D3.new
  have le1 : Le H (upd H b [.string f, .slice lp ll lc, .slice pp pl pc]) := Le.upd hb
  generalize upd H b [.string f, .slice lp ll lc, .slice pp pl pc] = H1 at *
  have hK := hK H1 le1
  unfold fewV at hK
  refine ⟨fun t Hx => ∃ i : Nat, t = (i : Nat) ∧ i ≤ ll ∧ Hx = H1 ∧ (ls.take i).all (fun x => decide (x.t.length ≤ 100)) = true, fun t _ => ((ll : Int) - t).toNat, ⟨0, rfl, Nat.zero_le _, rfl, rfl⟩, ?_⟩
  rintro t Hx ⟨i, rfl, gi, rfl, hi⟩
  refine ldL_i d.2.1 (bcd (fun hlt => ?_) fun hlt => ?_)
  · have hil : i < ls.length := by omega
    refine ldL_i d.2.1 (sn_nil (hL.le le1) (by omega) hlt fun q o hj e => ?_)
    simp only [Int.toNat_natCast] at e ⊢
    refine ldS_i (e 2 _ rfl) ?_
    rw [mkB_size]
    refine bcd (fun hg => ?_) fun hg => ?_
    · have hbad : (ls.all fun x => decide (x.t.length ≤ 100)) = false := by
        rw [List.all_eq_false]
        refine ⟨_, List.getElem_mem hil, ?_⟩
        rw [decide_eq_true_eq]; omega
      rw [hbad, Bool.false_and] at hK; exact hK
    · refine chk (by omega) ⟨⟨i + 1, by omega, by omega, by trivial, ?_⟩, by first | omega | (dsimp only; omega)⟩
      rw [List.take_succ_eq_append_getElem hil, List.all_append, hi]
      simp; omega
  · rw [List.take_of_length_le (by omega)] at hi
    rw [hi, Bool.true_and] at hK
    refine ldL_i d.2.1 (bcd (fun h => ldL_i d.2.2 ?_) fun h => ?_)
    · rw [decide_eq_true (by omega), Bool.true_and] at hK
      have e : decide (((pl : Nat) : Int) ≤ 200) = decide (ps.length ≤ 200) := decide_eq_decide.2 (by omega)
      rw [e]; exact hK
    · rw [decide_eq_false (by omega), Bool.false_and] at hK; exact hK
theorem centolaw14_line.c {n : Int} {s : ByteArray} {K : Int → Int → ByteArray → Bool → Hp → Prop} (hK : ∀ H', Le H H' → K 1 n s false H') : centolaw14_line.C n s H K := by
  apply centolaw14_line.of
  intro b hb
  refine ST_upd rfl (ST_upd rfl (ST_upd rfl (ST_upd rfl ?_)))
  exact ldI_i (by rw [rd_upd_self]; rfl) (ldI_i (by rw [rd_upd_self]; rfl) (ldS_i (by rw [rd_upd_self]; rfl) (ldB_i (by rw [rd_upd_self]; rfl) (hK _ (Le.upd hb)))))
theorem centoref4_Alike.c {p q : Option Addr} {l m c c2 : Nat} {xs ys : List Nat} {K : Bool → Hp → Prop} (hx : Sl iv H p l c xs) (hy : Sl iv H q m c2 ys) (hl : l ≤ 1000000000) (hK : K (decide (xs = ys)) H) : centoref4_Alike.C p l c q m c2 H K := by
  apply centoref4_Alike.of
  have e1 := hx.len
  have e2 := hy.len
  refine bcd (fun h => ?_) fun h => ?_
  · rw [decide_eq_false (fun e => by subst e; omega)] at hK; exact hK
  refine ⟨fun t Hx => ∃ i : Nat, t = (i : Nat) ∧ i ≤ l ∧ H = Hx ∧ xs.take i = ys.take i, fun t _ => ((l : Int) - t).toNat, ⟨0, rfl, by omega, rfl, rfl⟩, ?_⟩
  rintro t _ ⟨i, rfl, hi, rfl, he⟩
  refine bcd (fun h => ?_) (fun h => ?_)
  · have hia : i < xs.length := by omega
    have hib : i < ys.length := by omega
    refine slI hx (g := fun (n : Nat) => (n : Int)) (fun _ => rfl) (by omega) (by omega) fun _ => slI hy (g := fun (n : Nat) => (n : Int)) (fun _ => rfl) (by omega) (by omega) fun _ => ?_
    simp only [Int.toNat_natCast]
    refine bcd (fun h => ?_) (fun h => ?_)
    · rw [decide_eq_false (fun e => by subst e; exact h rfl)] at hK; exact hK
    · exact chk (by omega) ⟨⟨i + 1, by omega, by omega, by trivial, by rw [List.take_succ_eq_append_getElem hia, List.take_succ_eq_append_getElem hib, he, show xs[i] = ys[i] by omega]⟩, by first | omega | (dsimp only; omega)⟩
  · rw [List.take_of_length_le (by omega), List.take_of_length_le (by omega)] at he
    rw [decide_eq_true he] at hK; exact hK
end
def exF : List Ln := [⟨1, 0, [120, 10], false⟩, ⟨1, 1, [121], false⟩]
theorem centolaw14_known.c {H : Hp} {K : Bool → Hp → Prop} (hT : Tz H) (hK : ∀ H', Le H H' → K true H') : centolaw14_known.C H K := by
  apply centolaw14_known.of
  refine centolaw14_line.c fun Ha lea => centolaw14_line.c fun Hb leb => ?_
  intro b1 hb1
  have q1 : Sn 4 lnC (upd Hb b1 ([.int .u32 1, .int .i64 0, .string (bs [120, 10]), .bool false, .int .u32 1, .int .i64 1, .string (bs [121]), .bool false])) (some ⟨b1, 0, none⟩) 2 2 exF := by
    refine ⟨rfl, by decide, .inr ⟨b1, 0, rfl, fun i hi j v hv => ?_⟩⟩
    rw [rd_upd_self]
    match i, hi, j, hv with
    | 0, _, 0, hv => simp [lnC, exF] at hv; subst hv; rfl
    | 0, _, 1, hv => simp [lnC, exF] at hv; subst hv; rfl
    | 0, _, 2, hv => simp [lnC, exF] at hv; subst hv; rfl
    | 0, _, 3, hv => simp [lnC, exF] at hv; subst hv; rfl
    | 0, _, j + 4, hv => simp [lnC, exF] at hv
    | 1, _, 0, hv => simp [lnC, exF] at hv; subst hv; rfl
    | 1, _, 1, hv => simp [lnC, exF] at hv; subst hv; rfl
    | 1, _, 2, hv => simp [lnC, exF] at hv; subst hv; rfl
    | 1, _, 3, hv => simp [lnC, exF] at hv; subst hv; rfl
    | 1, _, j + 4, hv => simp [lnC, exF] at hv
    | i + 2, hi, _, _ => simp [exF] at hi; omega
  have le1 := (lea.trans leb).trans (Le.upd (c := [.int .u32 1, .int .i64 0, .string (bs [120, 10]), .bool false, .int .u32 1, .int .i64 1, .string (bs [121]), .bool false]) hb1)
  generalize upd Hb b1 _ = H1 at *
  intro b2 hb2
  have q2 : Sn 2 pairC (upd H1 b2 ([.int .i64 1, .int .i64 0])) (some ⟨b2, 0, none⟩) 1 1 [(1, 0)] := by
    refine ⟨rfl, by decide, .inr ⟨b2, 0, rfl, fun i hi j v hv => ?_⟩⟩
    have : i = 0 := by simp at hi; omega
    subst this
    rw [rd_upd_self]
    match j, hv with
    | 0, hv => simp [pairC] at hv; subst hv; rfl
    | 1, hv => simp [pairC] at hv; subst hv; rfl
    | j + 2, hv => simp [pairC] at hv
  have le2 := Le.upd (c := [.int .i64 1, .int .i64 0]) hb2
  generalize upd H1 b2 _ = H2 at *
  have hL := q1.le le2
  have hT2 := hT.le (le1.trans le2)
  refine D3.mk fun a H3 ha da le3 => ?_
  have sz : ∀ x ∈ exF, x.t.length ≤ 1000000 := by decide
  have nl : Sn 2 pairC H2 none 0 0 [] := ⟨rfl, Nat.le_refl _, .inl rfl⟩
  refine da.get (view_Text.c (hL.le le3) (q2.le le3) (hT2.le le3) (by decide) (by decide) sz (fun h => absurd (h.symm.trans (by kernel_rfl : _ = true)) (by decide)) fun _ H4 le4 => ?_)
  have le24 := le3.trans le4
  refine (da.le le4).get (D3.mk fun g H5 hg dg le5 => dg.set2 fun H6 dg6 m6 => ?_)
  have le46 : Le H4 H6 := m6.le le5 (by simpa using hg)
  have le26 := le24.trans le46
  have da6 := (da.le le4).le le46
  refine dg6.get (view_Text.c (hL.le le26) (nl.le le26) (hT2.le le26) (by decide) (by decide) sz (fun _ H7 le7 => ?_) fun h => absurd (h.symm.trans (by kernel_rfl : _ = false)) (by decide))
  have le27 := le26.trans le7
  refine (dg6.le le7).get (view_Show.c (hL.le le27) (nl.le le27) (hT2.le le27) (by decide) (by decide) fun sp sl sc H8 hB8 le8 => ?_)
  have le28 := le27.trans le8
  have le68 := le7.trans le8
  have s8 := hB8.sn shC_len (by decide)
  have e8 : sl = 2 := s8.len.trans (by kernel_rfl)
  refine (da6.le le68).get (view_Order.c (hL.le le28) (q2.le le28) (hT2.le le28) (by decide) (by decide) fun op ol oc H9 hB9 le9 => ?_)
  have le29 := le28.trans le9
  have le69 := le68.trans le9
  have s9 := hB9.sl
  have e9 : ol = 2 := s9.len.trans (by kernel_rfl)
  refine bcT (bcd (fun _ => ?_) fun h => absurd (by kernel_rfl) h)
  refine bcT (bcd (fun _ => ?_) fun h => absurd (by omega) h)
  refine sn_nil (s8.le le9) (by decide) (by omega) fun q o hj e => ?_
  refine ldI_i (e 2 _ rfl) (bcd (fun _ => ?_) fun h => absurd (by kernel_rfl) h)
  refine (dg6.le le69).get (view_Print.c (hL.le le29) (nl.le le29) (hT2.le le29) (by decide) (by decide) sz fun H10 le10 => bcd (fun _ => ?_) fun h => absurd (by kernel_rfl) h)
  have le210 := le29.trans le10
  have le610 := le69.trans le10
  refine (dg6.le le610).get (view_Conflicts.c (hL.le le210) (nl.le le210) (hT2.le le210) (by decide) (by decide) fun H11 le11 => bcd (fun _ => ?_) fun h => absurd (by kernel_rfl) h)
  have le211 := le210.trans le11
  have le611 := le610.trans le11
  refine (da6.le le611).get (view_Linear.c (hL.le le211) (q2.le le211) (hT2.le le211) (by decide) (by decide) fun H12 le12 => ?_)
  have le212 := le211.trans le12
  have le612 := le611.trans le12
  refine bc_i (fun _ => ?_) fun h => absurd (h.symm.trans (by kernel_rfl : _ = true)) (by decide)
  refine (dg6.le le612).get (view_Linear.c (hL.le le212) (nl.le le212) (hT2.le le212) (by decide) (by decide) fun H13 le13 => ?_)
  have le213 := le212.trans le13
  refine bcn (fun _ => bcd (fun _ => ?_) fun h => absurd (by omega) h) fun h => absurd (h.symm.trans (by kernel_rfl : _ = false)) (by decide)
  refine slI (s9.le (((le10.trans le11).trans le12).trans le13)) (g := fun (n : Nat) => (n : Int)) (fun _ => rfl) (by decide) (by omega) fun _ => ?_
  have hK := hK H13 ((le1.trans le2).trans le213)
  rw [decide_eq_true (by kernel_rfl)]
  exact hK
end Go.Proofs.YteijgmmjgbgffaaDoor
namespace Go.Proofs.YteijgmmjgbgffaaDoor
open Go.V
/-! ### Files that come in -/
abbrev lineE : Enc ((Int × Int) × ByteArray × Bool) := ((Enc.int .u32).pair (Enc.int .i64)).pair (Enc.str.pair Enc.bool)
abbrev fileE : Enc (ByteArray × List ((Int × Int) × ByteArray × Bool) × List (Int × Int)) := Enc.str.pair (lineE.sl.pair ((Enc.int .i64).pair (Enc.int .i64)).sl)
def toLn (x : (Int × Int) × ByteArray × Bool) : Ln := ⟨x.1.1, x.1.2, L x.2.1, x.2.2⟩
theorem lineE_rep {H : Hp} {cs : List Value} {x : (Int × Int) × ByteArray × Bool} (h : lineE.rep H cs x) : cs = lnC (toLn x) := by
  obtain ⟨c1, c2, rfl, ⟨c3, c4, rfl, ⟨h1, _⟩, ⟨h2, _⟩⟩, ⟨c5, c6, rfl, ⟨h3, _⟩, h4⟩⟩ := h
  rw [h1, h2, h3, (show c6 = [.bool x.2.2] from h4)]; rfl
theorem fileE_rep {H : Hp} {cs : List Value} {x : ByteArray × List ((Int × Int) × ByteArray × Bool) × List (Int × Int)} (h : fileE.rep H cs x) :
    ∃ lp ll lc pp pl pc, cs = [.string x.1, .slice lp ll lc, .slice pp pl pc] ∧ Sn 4 lnC H lp ll lc (x.2.1.map toLn) ∧ Sn 2 pairC H pp pl pc x.2.2 ∧ ll ≤ maxLen := by
  obtain ⟨c1, c2, rfl, ⟨h1, _⟩, ⟨c3, c4, rfl, ⟨lp, ll, lc, rfl, h2⟩, ⟨pp, pl, pc, rfl, h3⟩⟩⟩ := h
  exact ⟨lp, ll, lc, pp, pl, pc, by rw [h1]; rfl, (h2.sn lineE_rep).map, h3.pairs, Nat.le_trans h2.2.1 h2.2.2.1⟩
end Go.Proofs.YteijgmmjgbgffaaDoor
namespace Go.Proofs.YteijgmmjgbgffaaDoor
open Go.V
open Go.ChangeShapes Go.WideShapes Go.ChangeAt Go.RowKit Go.WideElems Go.WideMaps

theorem Tryd.own : ownKnob Tryd.prog.godebug = Option.none := by kernel_rfl
theorem Tryd.laidOut : laidOutB Tryd.prog = true := by kernel_rfl
def laidTz : List (String × DataW Unit) := [("math/bits.deBruijn64tab", Rows.laid_math_bits_deBruijn64tab)]
theorem gTz : Tryd.prog.globalNamed "math/bits.deBruijn64tab" = some gTab := by kernel_rfl
theorem tTz : (Tryd.prog.globals[gTab]?).map (·.type) = some 153 := by kernel_rfl
theorem cTz : Tryd.prog.cellsOf 5 = 1 := by kernel_rfl
/-- The table, out of the row's condition. -/
theorem tz_of_laid {W : World} (h : laidMetH Tryd.prog laidTz W) : Tz (hp W) := by
  rw [MakeChecks.laidMetH_plain _ _ _ (by kernel_rfl)] at h
  obtain ⟨ps, ⟨g0, t0, cs0, f0, p0, q0, hg0, ht0, hv0, hd0, _, hps⟩, _, hfz⟩ := h
  obtain rfl := Option.some.inj (gTz.symm.trans hg0)
  obtain rfl := Option.some.inj (tTz.symm.trans ht0)
  obtain ⟨xs, m1, rfl, hx1, hlen, hn, hel⟩ := DataW.trod_array Tryd.underlying153 hd0
  have c64 : Tryd.prog.cellsOf 153 = 64 := by kernel_rfl
  rw [c64] at hlen
  simp only [Prod.mk.injEq] at hx1
  have hx2 : xs.map (·.1) = Lib.deBruijn64tab.map fun k => DataW.lit (.int .u8 (k : Nat)) := by
    have := hx1.1
    rw [Rows.laid_math_bits_deBruijn64tab, DataW.agg.injEq] at this
    rw [← this]; rfl
  intro i hi
  have h0 := hel i hi
  rw [cTz, Nat.mul_one] at h0
  have hix : i < xs.length := by omega
  rw [List.getElem?_eq_getElem hix] at h0
  obtain ⟨k, e1, e2, _⟩ := DataW.trod_int Tryd.underlying5 h0
  have hk : k = ((Lib.deBruijn64tab.getD i 0 : Nat) : Int) := by
    have h3 : (xs.map (·.1))[i]? = some (DataW.lit (.int .u8 k)) := by rw [List.getElem?_map, List.getElem?_eq_getElem hix]; simp [e2]
    rw [hx2, List.getElem?_map] at h3
    have hit : i < Lib.deBruijn64tab.length := hi
    rw [List.getElem?_eq_getElem hit] at h3
    simp only [Option.map_some, Option.some.injEq, DataW.lit.injEq, Lit.int.injEq, true_and] at h3
    rw [← h3]; simp [List.getD, hit]
  have hcell := World.var?_cell hg0 hv0 i
  have hci : i < cs0.size := by simpa using (show i < cs0.toList.length by omega)
  have hget : cs0[i]? = some (.int .u8 k) := by
    have h4 : (cs0.toList.drop i).take 1 = [.int .u8 k] := e1
    have h5 : cs0.toList[i]? = some (.int .u8 k) := by
      have h6 := congrArg (fun l => l[0]?) h4
      simpa [List.getElem?_take, List.getElem?_drop] using h6
    simpa using h5
  rw [hget, hk] at hcell
  have hm : MemPlace.cell gTab i ∈ ps := by
    rw [hps]
    refine List.mem_append_left _ (List.mem_append_left _ ?_)
    have := row_mem (a := ⟨gTab, 0, none⟩) (n := cs0.size) hci
    simpa using this
  obtain ⟨⟨c, t, hb⟩, _⟩ := hfz _ _ hm
  refine rd_of_cell hcell ?_ rfl
  unfold World.frozen?
  rw [hb]
  simp

/-- The door's own heap meets the condition. -/
theorem door_met (os : Os) (args : Array Value) : laidMetH Tryd.prog laidTz ((World.doorLaid Tryd.prog 400 os).forCall (fun _ _ => 0) ⟨#[], args, []⟩).memory :=
  laidMetH_of_parts3 (fuel := 8) (laidMet_of_run' 8 (by kernel_rfl) (by kernel_rfl)) (by kernel_rfl) (by kernel_rfl)
end Go.Proofs.YteijgmmjgbgffaaDoor
namespace Go.Proofs.YteijgmmjgbgffaaDoor
open Go.V
/-! ### Files that are made -/
/-- Block q is a file that is made: its lines, its pairs, in memory that wasn't there in A. -/
def Fb (A H : Hp) (q : Nat) (f : ByteArray) (ls : List Ln) (ps : List (Int × Int)) : Prop :=
  Le A H ∧ A q = none ∧ ∃ lp ll lc pp pl pc, D3 H q f lp ll lc pp pl pc ∧ Buf 4 A H lp ll lc (ls.flatMap lnC) ∧ Buf 2 A H pp pl pc (ps.flatMap pairC) ∧ Apart lp (some ⟨q, 0, none⟩) ∧ Apart pp (some ⟨q, 0, none⟩) ∧ Apart lp pp
section
variable {A H H' : Hp} {q : Nat} {f : ByteArray} {ls : List Ln} {ps : List (Int × Int)}
theorem pairC_len (x : Int × Int) : (pairC x).length = 2 := rfl
theorem Fb.new {a0 b0 : Option Addr} {a1 a2 b1 b2 : Nat} {q0 : ByteArray} (hA : Le A H) {F : Nat → Hp → Prop} (hF : ∀ q H', Fb A H' q f [] [] → Le H H' → F q H') :
    NEW H [.string q0, .slice a0 a1 a2, .slice b0 b1 b2] fun q H1 => ST H1 q 0 (.string f) fun H2 => ST H2 q 1 (.slice none 0 0) fun H3 => ST H3 q 2 (.slice none 0 0) fun H4 => F q H4 :=
  D3.mk fun q H' hq d hle => hF q H' ⟨hA.trans hle, none_of_le hA hq, none, 0, 0, none, 0, 0, d, Buf.none, Buf.none, Apart.none, Apart.none, Apart.none⟩ hle
theorem Fb.le (h : Fb A H q f ls ps) (hl : Le H H') : Fb A H' q f ls ps := by
  obtain ⟨h1, h2, lp, ll, lc, pp, pl, pc, h3, h4, h5, h6⟩ := h
  exact ⟨h1.trans hl, h2, lp, ll, lc, pp, pl, pc, h3.le hl, h4.le hl, h5.le hl, h6⟩
theorem Fb.getL (h : Fb A H q f ls ps) : ∃ lp ll lc, rd H q 1 = some (.slice lp ll lc) ∧ Sn 4 lnC H lp ll lc ls ∧ ∀ H1, Le H H1 → rd H1 q 1 = some (.slice lp ll lc) ∧ ∀ (x : Ln) (b : Nat) (F : Hp → Prop), H1 b = none → ll ≤ 1000000000 → (∀ H', Fb A H' q f (ls ++ [x]) ps → F H') →
    rd (upd H1 b (lnC x)) q 1 = some (.slice lp ll lc) ∧ APP (upd H1 b (lnC x)) te_api_Line lp ll lc (.slice (some ⟨b, 0, none⟩) 1 1) fun p' l' c' H2 => ST H2 q 1 (.slice p' l' c') F := by
  obtain ⟨h1, h2, lp, ll, lc, pp, pl, pc, h3, h4, h5, h6, h7, h8⟩ := h
  refine ⟨lp, ll, lc, h3.2.1, h4.sn lnC_len (by decide), fun H1 hl => ⟨hl.rd h3.2.1, fun x b F hb hll hF => ⟨((hl.trans (Le.upd hb)).rd h3.2.1), ?_⟩⟩⟩
  have d1 := h3.le hl
  refine ((h4.le hl).pushM (te := te_api_Line) (new := lnC x) rfl (by decide) rfl (by decide) rfl rfl (by simp [te_api_Line]; omega) (fun p' c' H2 hB2 hp hM => ?_) (h1.trans hl)) b hb
  have hq : q ∉ blkL lp := h6.not h4
  have d2 := d1.mod hM hq
  have le2 : Le A H2 := hM.le (h1.trans hl) fun b hb => h4.fr b 0 (blkL_mem h4.zero hb)
  have a1 := h6.of_newQ hp d1.there
  have a2 := h8.of_new hp (h5.le hl)
  have hP2 := (h5.le hl).mod hM fun b o e hb => h8 b 0 o (blkL_mem h4.zero hb) e
  have mq : ∀ {v}, Mod [q] H2 (wr H2 q 1 v) := Mod.refl.wr (.inl (by simp))
  refine st d2.2.1 (hF _ ⟨le2.wr h2, h2, p', ll + 1, c', pp, pl, pc, ⟨by rw [rd_wr_off (by decide)]; exact d2.1, rd_wr_self d2.2.1, by rw [rd_wr_off (by decide)]; exact d2.2.2⟩, ?_, ?_, a1, h7, a2⟩)
  · rw [List.flatMap_append, List.flatMap_singleton]
    exact hB2.mod mq fun b o e hb => by simp at hb; subst hb; exact a1 _ _ _ e rfl
  · exact hP2.mod mq fun b o e hb => by simp at hb; subst hb; exact h7 _ _ _ e rfl
theorem Fb.getP (h : Fb A H q f ls ps) : ∃ pp pl pc, rd H q 2 = some (.slice pp pl pc) ∧ Sn 2 pairC H pp pl pc ps ∧ ∀ H1, Le H H1 → rd H1 q 2 = some (.slice pp pl pc) ∧ ∀ (x : Int × Int) (b : Nat) (F : Hp → Prop), H1 b = none → pl ≤ 1000000000 → (∀ H', Fb A H' q f ls (ps ++ [x]) → F H') →
    rd (upd H1 b (pairC x)) q 2 = some (.slice pp pl pc) ∧ APP (upd H1 b (pairC x)) te_api_Pair pp pl pc (.slice (some ⟨b, 0, none⟩) 1 1) fun p' l' c' H2 => ST H2 q 2 (.slice p' l' c') F := by
  obtain ⟨h1, h2, lp, ll, lc, pp, pl, pc, h3, h4, h5, h6, h7, h8⟩ := h
  refine ⟨pp, pl, pc, h3.2.2, h5.sn pairC_len (by decide), fun H1 hl => ⟨hl.rd h3.2.2, fun x b F hb hll hF => ⟨((hl.trans (Le.upd hb)).rd h3.2.2), ?_⟩⟩⟩
  have d1 := h3.le hl
  refine ((h5.le hl).pushM (te := te_api_Pair) (new := pairC x) rfl (by decide) rfl (by decide) rfl rfl (by simp [te_api_Pair]; omega) (fun p' c' H2 hB2 hp hM => ?_) (h1.trans hl)) b hb
  have hq : q ∉ blkL pp := h7.not h5
  have d2 := d1.mod hM hq
  have le2 : Le A H2 := hM.le (h1.trans hl) fun b hb => h5.fr b 0 (blkL_mem h5.zero hb)
  have a1 := h7.of_newQ hp d1.there
  have a2 := (h8.symm.of_new hp (h4.le hl)).symm
  have hP2 := (h4.le hl).mod hM fun b o e hb => h8 b o 0 e (blkL_mem h5.zero hb)
  have mq : ∀ {v}, Mod [q] H2 (wr H2 q 2 v) := Mod.refl.wr (.inl (by simp))
  refine st d2.2.2 (hF _ ⟨le2.wr h2, h2, lp, ll, lc, p', pl + 1, c', ⟨by rw [rd_wr_off (by decide)]; exact d2.1, by rw [rd_wr_off (by decide)]; exact d2.2.1, rd_wr_self d2.2.2⟩, ?_, ?_, h6, a1, a2⟩)
  · exact hP2.mod mq fun b o e hb => by simp at hb; subst hb; exact h6 _ _ _ e rfl
  · rw [List.flatMap_append, List.flatMap_singleton]
    exact hB2.mod mq fun b o e hb => by simp at hb; subst hb; exact a1 _ _ _ e rfl
/-- A line is dead, or not. -/
theorem flat_set {i : Nat} (h : i < ls.length) (v : Bool) : ∀ {ls : List Ln} {i : Nat} (h : i < ls.length), (ls.flatMap lnC).set (i * 4 + 3) (.bool v) = (ls.set i { ls[i] with d := v }).flatMap lnC := by
  clear h
  intro ls
  induction ls with
  | nil => intro i h; simp at h
  | cons x ls ih =>
    intro i h
    cases i with
    | zero => simp [lnC]
    | succ i =>
      have := ih (i := i) (by simpa using h)
      simp only [List.flatMap_cons, List.set_cons_succ, List.getElem_cons_succ]
      rw [List.set_append_right _ _ (by rw [lnC_len]; omega), lnC_len, show (i + 1) * 4 + 3 - 4 = i * 4 + 3 by omega, this]
theorem Fb.dead (h : Fb A H q f ls ps) {i : Nat} (hi : i < ls.length) {v : Bool} {F : Hp → Prop} (hF : ∀ H', Fb A H' q f (ls.set i { ls[i] with d := v }) ps → F H') : ∀ {lp ll lc}, rd H q 1 = some (.slice lp ll lc) → IDX (i : Nat) ll fun k => NIL lp fun b o => ST H b ((o + (k * 4)) + 3) (.bool v) F := by
  obtain ⟨h1, h2, lp, ll, lc, pp, pl, pc, h3, h4, h5, h6, h7, h8⟩ := h
  intro lp' ll' lc' e
  rw [h3.2.1] at e
  simp only [Option.some.injEq, Value.slice.injEq] at e
  obtain ⟨rfl, rfl, rfl⟩ := e
  have s := h4.sn lnC_len (by decide)
  have sl := s.len
  obtain ⟨b, rfl⟩ := h4.some_of (by omega)
  have hb : b ≠ q := fun e => h6 b 0 0 rfl (by rw [e])
  have r : rd H b (0 + i * 4 + 3) = some (.bool ls[i].d) := by
    rcases s.2.2 with h | ⟨b', o', e, hh⟩
    · rw [h] at hi; simp at hi
    · simp only [Option.some.injEq, Addr.mk.injEq, and_true] at e
      obtain ⟨rfl, rfl⟩ := e
      exact hh i hi 3 _ rfl
  have hlen : i * 4 + 3 < (ls.flatMap lnC).length := by rw [flatMap_len lnC_len]; omega
  refine idxN i rfl (by omega) (nil (st r (hF _ ⟨h1.wr (h4.fr b 0 rfl), h2, some ⟨b, 0, none⟩, ll, lc, pp, pl, pc, h3.mod (O := [b]) (Mod.refl.wr (.inl (by simp))) (by simpa using Ne.symm hb), ?_, h5.mod (O := [b]) (Mod.refl.wr (.inl (by simp))) (fun b' o e hb' => by simp at hb'; subst hb'; exact h8 b' 0 o rfl e), h6, h7, h8⟩)))
  have := h4.set (v := .bool v) hlen rfl
  rw [flat_set hi v hi] at this
  rw [Nat.zero_add]; exact this
/-- To read in it. -/
theorem Fb.use (h : Fb A H q f ls ps) : ∃ lp ll lc pp pl pc, D3 H q f lp ll lc pp pl pc ∧ Sn 4 lnC H lp ll lc ls ∧ Sn 2 pairC H pp pl pc ps := by
  obtain ⟨h1, h2, lp, ll, lc, pp, pl, pc, h3, h4, h5, h6, h7, h8⟩ := h
  exact ⟨lp, ll, lc, pp, pl, pc, h3, h4.sn lnC_len (by decide), h5.sn pairC_len (by decide)⟩
end
/-! ### Rows by hand -/
theorem srtS_tail {M : Nat → Nat → Bool} {n : Nat} : ∀ (m s : Nat), (∀ x y, s ≤ x → M x y = true → x < y) → s + m = n → srtS M n m (List.range' s m) = List.range' s m
  | 0, s, _, _ => rfl
  | m + 1, s, h, e => by
    have hf : (List.range' s (m + 1)).find? (freeL M (List.range' s (m + 1))) = some s := by
      rw [List.range'_succ, List.find?_cons_of_pos]
      unfold freeL
      rw [List.all_eq_true]
      intro g hg
      rw [← List.range'_succ, List.mem_range'_1] at hg
      rw [Bool.or_eq_true, decide_eq_true_eq, Bool.not_eq_true']
      cases hm : M g s with
      | false => exact .inr rfl
      | true => have := h g s hg.1 hm; omega
    have hc : clsM M n s = [s] := by
      rw [clsM_prog (by omega)]
      congr 1
      unfold els behM
      rw [List.filter_eq_nil_iff]
      intro b hb
      have hb' := List.mem_range.1 hb
      intro hh
      simp only [Bool.and_eq_true, decide_eq_true_eq] at hh
      have h1 := h _ _ (Nat.le_refl s) hh.1.2
      have h2 := h _ _ (by omega) hh.2
      omega
    rw [srtS, hf]
    simp only
    rw [hc, List.range'_succ, List.erase_cons_head, srtS_tail m (s + 1) (fun x y hx => h x y (by omega)) (by omega)]
    rfl
theorem hds_all {M : Nat → Nat → Bool} {n : Nat} (h : ∀ x y, M x y = true → x < y) : hdsM M n = List.range n := by
  unfold hdsM els
  rw [List.filter_eq_self]
  intro a _
  unfold fstM
  rw [List.all_eq_true]
  intro b hb
  have := List.mem_range.1 hb
  rw [Bool.not_eq_true']
  cases e : oneM M a b with
  | false => rfl
  | true =>
    rcases oneM_iff.1 e with e | e
    · omega
    · have := h _ _ e.1; omega
theorem srt_lt {M : Nat → Nat → Bool} {n : Nat} (h : ∀ x y, M x y = true → x < y) : srt M n = List.range n := by
  unfold srt
  rw [hds_all h, List.length_range, List.range_eq_range']
  exact srtS_tail n 0 (fun x y _ => h x y) (by omega)
theorem alv_all {ls : List Ln} (h : ∀ x ∈ ls, x.d = false) : alv ls = List.range ls.length := by
  unfold alv els
  rw [List.filter_eq_self]
  intro i hi
  have hi := List.mem_range.1 hi
  rw [lnD hi, h _ (List.getElem_mem hi)]; rfl
theorem rM_all {ls : List Ln} {ps : List (Int × Int)} (h : ∀ x ∈ ls, x.d = false) : rM ls ps = clo (ofM ps ls.length) ls.length := by
  funext x y
  unfold rM
  rw [alv_all h, List.length_range]
  by_cases e : x < ls.length ∧ y < ls.length
  · rw [decide_eq_true e, Bool.true_and]
    unfold cM
    congr 1 <;> simp [List.getD, e.1, e.2]
  · rw [decide_eq_false e, Bool.false_and]
    exact (clo_sup (ofM_sup ps ls.length) x y (by omega)).symm
def lnK (i : Nat) : Ln := ⟨1, (i : Int), [UInt8.ofNat (97 + i % 26), 10], false⟩
def lsN (n : Nat) : List Ln := (List.range n).map lnK
theorem lsN_len (n : Nat) : (lsN n).length = n := by simp [lsN]
theorem lsN_succ (n : Nat) : lsN (n + 1) = lsN n ++ [lnK n] := by unfold lsN; rw [List.range_succ, List.map_append]; rfl
theorem lsN_d (n : Nat) : ∀ x ∈ lsN n, x.d = false := fun x hx => by obtain ⟨i, _, rfl⟩ := List.mem_map.1 hx; rfl
theorem lsN_get {n i : Nat} (h : i < n) : (lsN n)[i]'(by rw [lsN_len]; exact h) = lnK i := by simp [lsN]
theorem lsN_t (n : Nat) : ∀ x ∈ lsN n, x.t.length ≤ 1000000 := fun x hx => by obtain ⟨i, _, rfl⟩ := List.mem_map.1 hx; show ([_, _] : BL).length ≤ _; simp
theorem u8w' (n : Int) : IntKind.wrap .u8 n = n % 256 := by simp [IntKind.wrap, IntKind.bits, IntKind.signed]
/-- Bytes that were just put down. -/
theorem bts_two {b : Nat} {x y : UInt8} {tl : List Value} {H : Hp} {F : ByteArray → Prop} (hF : F (mkB [x, y])) : BTS (upd H b ([.int .u8 ((x.toNat : Nat) : Int), .int .u8 ((y.toNat : Nat) : Int)] ++ tl)) (some ⟨b, 0, none⟩) 2 F := by
  refine ⟨[x, y], rfl, fun i z e => ?_, hF⟩
  match i, e with
  | 0, e => simp at e; subst e; rw [rd_upd_self]; rfl
  | 1, e => simp at e; subst e; rw [rd_upd_self]; rfl
  | i + 2, e => simp at e
end Go.Proofs.YteijgmmjgbgffaaDoor
