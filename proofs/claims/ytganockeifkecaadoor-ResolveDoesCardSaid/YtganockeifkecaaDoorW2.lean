/- For every file and lines ResolveDoes returns true, and what came in reads as it did: no condition. -/
import Derived.Test.YtganockeifkecaaDoorZ6
namespace Go.Proofs.YtganockeifkecaaDoor
open Go.V
open Go.ChangeShapes Go.WideShapes Go.ChangeAt Go.RowKit
section
variable {ls : List Ln} {ps : List (Int × Int)}
def noM (ls : List Ln) (ps : List (Int × Int)) : Prop := ∀ x, x < (alv ls).length → rM ls ps x x = false
theorem noM_of (h : (shL ls ps).any (fun s => decide (s.m = 33)) = false) : noM ls ps := fun x hx => by
  have hm := ((ord_spec (ls := ls) (ps := ps)).1 x).2 hx
  rw [List.any_eq_false] at h
  have h := h (shn ls ps x) (List.mem_map.2 ⟨x, hm, rfl⟩)
  rw [decide_eq_true_eq, shn_m] at h
  cases e : rM ls ps x x with
  | false => rfl
  | true => exact absurd (by unfold markB; rw [if_pos e]) h
/-- The line that is shown at a place. -/
def pz (ls : List Ln) (ps : List (Int × Int)) (i : Nat) : Nat := (alv ls).getD ((ordL ls ps).getD i 0) 0
theorem pz_at {i : Nat} (hi : i < (ordL ls ps).length) : pz ls ps i = (alv ls)[(ordL ls ps)[i]]'(ord_lt hi) := by unfold pz; rw [oD hi, aD (ord_lt hi)]
theorem pz_lt {i : Nat} (hi : i < (ordL ls ps).length) : pz ls ps i < ls.length := by rw [pz_at hi]; exact alv_lt (ord_lt hi)
theorem cM_pz {i j : Nat} (hi : i < (ordL ls ps).length) (hj : j < (ordL ls ps).length) (qs : List (Int × Int)) : rM ls qs (ordL ls ps)[i] (ordL ls ps)[j] = cM ls qs (pz ls ps i) (pz ls ps j) := by
  rw [rM_cM (ord_lt hi) (ord_lt hj), pz_at hi, pz_at hj]
theorem ord_ne {i j : Nat} (hi : i < (ordL ls ps).length) (hj : j < (ordL ls ps).length) (e : (ordL ls ps)[i] = (ordL ls ps)[j]) : i = j := by
  have hn : (ordL ls ps).Pairwise (· ≠ ·) := (ord_spec (ls := ls) (ps := ps)).2.1
  rw [List.pairwise_iff_getElem] at hn
  rcases Nat.lt_trichotomy i j with h | h | h
  · exact absurd e (hn i j hi hj h)
  · exact h
  · exact absurd e.symm (hn j i hj hi h)
theorem pz_inj {i j : Nat} (hi : i < (ordL ls ps).length) (hj : j < (ordL ls ps).length) (e : pz ls ps i = pz ls ps j) : i = j := by
  rw [pz_at hi, pz_at hj] at e
  exact ord_ne hi hj (alv_inj (ord_lt hi) (ord_lt hj) e)
theorem cM_fwd (h : noM ls ps) {i j : Nat} (hi : i < (ordL ls ps).length) (hj : j < (ordL ls ps).length) (e : cM ls ps (pz ls ps i) (pz ls ps j) = true) : i < j := by
  rw [← cM_pz hi hj] at e
  rcases Nat.lt_trichotomy i j with h1 | h1 | h1
  · exact h1
  · subst h1; rw [h _ (ord_lt hi)] at e; cases e
  · have hp := List.pairwise_iff_getElem.1 (ord_spec (ls := ls) (ps := ps)).2.2.1 j i hj hi h1
    have e2 : rM ls ps (ordL ls ps)[j] (ordL ls ps)[i] = true := by
      cases e2 : rM ls ps (ordL ls ps)[j] (ordL ls ps)[i] with
      | true => rfl
      | false => exact absurd ⟨e, e2⟩ hp
    have := rM_tr _ _ _ e e2
    rw [h _ (ord_lt hi)] at this; cases this
theorem nbTo_mem {e : Ed} : ∀ {k : Nat}, e ∈ nbTo ls ps k ↔ ∃ i, i < k ∧ nbB ls ps i = true ∧ e = ⟨oId ls ps (i - 1), oId ls ps i⟩
  | 0 => by simp [nbTo]
  | k + 1 => by
    rw [nbTo, List.mem_append, nbTo_mem (k := k)]
    constructor
    · rintro (⟨i, h1, h2⟩ | h)
      · exact ⟨i, by omega, h2⟩
      · by_cases hb : nbB ls ps k = true
        · rw [if_pos hb] at h
          exact ⟨k, by omega, hb, by simpa using h⟩
        · rw [if_neg hb] at h; cases h
    · rintro ⟨i, h1, h2, h3⟩
      by_cases hk : i = k
      · subst hk; rw [if_pos h2]; exact .inr (by simpa using h3)
      · exact .inl ⟨i, by omega, h2, h3⟩
/-- The lines' pairs, with one for each new edge. -/
abbrev psN (ls : List Ln) (ps : List (Int × Int)) : List (Int × Int) := wPs ls ps (srtE (nbTo ls ps (ordL ls ps).length))
theorem at_pz (hu : Uq ls) {i : Nat} (hi : i < (ordL ls ps).length) : atZ ls (oId ls ps i) = ((pz ls ps i : Nat) : Int) := by rw [at_oId hu hi, pz_at hi]
theorem psN_mem (hu : Uq ls) {p : Int × Int} : p ∈ psN ls ps ↔ p ∈ ps ∨ ∃ i, 0 < i ∧ i < (ordL ls ps).length ∧ cM ls ps (pz ls ps (i - 1)) (pz ls ps i) = false ∧ p = (((pz ls ps (i - 1) : Nat) : Int), ((pz ls ps i : Nat) : Int)) := by
  have key : ∀ i, i < (ordL ls ps).length → 0 < i → nbB ls ps i = !cM ls ps (pz ls ps (i - 1)) (pz ls ps i) := fun i hi h0 => by
    unfold nbB
    rw [oD (show i - 1 < _ by omega), oD hi, cM_pz (by omega) hi, decide_eq_true h0]; rfl
  unfold psN wPs
  rw [List.mem_append, List.mem_map]
  constructor
  · rintro (h | ⟨e, he, rfl⟩)
    · exact .inl h
    · obtain ⟨i, hi, hb, rfl⟩ := nbTo_mem.1 ((srtE_perm _).mem_iff.1 he)
      have h0 : 0 < i := by
        rcases Nat.eq_zero_or_pos i with h | h
        · subst h; unfold nbB at hb; simp at hb
        · exact h
      rw [key i hi h0] at hb
      exact .inr ⟨i, h0, hi, by simpa using hb, by rw [at_pz hu (show i - 1 < _ by omega), at_pz hu hi]⟩
  · rintro (h | ⟨i, h0, hi, hc, rfl⟩)
    · exact .inl h
    · exact .inr ⟨⟨oId ls ps (i - 1), oId ls ps i⟩, (srtE_perm _).mem_iff.2 (nbTo_mem.2 ⟨i, hi, by rw [key i hi h0, hc]; rfl, rfl⟩), by rw [at_pz hu (show i - 1 < _ by omega), at_pz hu hi]⟩
theorem ofM_in {l : List (Int × Int)} {n x y : Nat} : ofM l n x y = true ↔ x < n ∧ y < n ∧ ((x : Int), (y : Int)) ∈ l := by
  unfold ofM
  rw [Bool.and_eq_true, decide_eq_true_eq, List.any_eq_true]
  constructor
  · rintro ⟨⟨h1, h2⟩, p, hp, h⟩
    rw [decide_eq_true_eq] at h
    obtain ⟨a, b⟩ := p
    obtain ⟨rfl, rfl⟩ := h
    exact ⟨h1, h2, hp⟩
  · rintro ⟨h1, h2, hp⟩
    exact ⟨⟨h1, h2⟩, _, hp, by simp⟩
theorem cM_up {qs : List (Int × Int)} (h : ∀ p ∈ ps, p ∈ qs) {x y : Nat} (e : cM ls ps x y = true) : cM ls qs x y = true :=
  clo_mono (ofM_sup _ _) (ofM_sup _ _) (fun x y e => clo_ge (ofM_sup _ _) (by obtain ⟨h1, h2, h3⟩ := ofM_in.1 e; exact ofM_in.2 ⟨h1, h2, h _ h3⟩)) e
/-- What the new pairs bring at most. -/
def nW (ls : List Ln) (ps : List (Int × Int)) (x y : Nat) : Prop :=
  cM ls ps x y = true ∨ ∃ i j, i < j ∧ j < (ordL ls ps).length ∧ (x = pz ls ps i ∨ cM ls ps x (pz ls ps i) = true) ∧ (y = pz ls ps j ∨ cM ls ps (pz ls ps j) y = true)
theorem nW_tr (hn : noM ls ps) {x y z : Nat} (h1 : nW ls ps x y) (h2 : nW ls ps y z) : nW ls ps x z := by
  have tr := cM_tr (ls := ls) (ps := ps)
  rcases h1 with h1 | ⟨i, j, hij, hj, h3, h4⟩
  · rcases h2 with h2 | ⟨i, j, hij, hj, h3, h4⟩
    · exact .inl (tr _ _ _ h1 h2)
    · refine .inr ⟨i, j, hij, hj, .inr ?_, h4⟩
      rcases h3 with rfl | h3
      · exact h1
      · exact tr _ _ _ h1 h3
  · rcases h2 with h2 | ⟨i', j', hij', hj', h3', h4'⟩
    · refine .inr ⟨i, j, hij, hj, h3, .inr ?_⟩
      rcases h4 with rfl | h4
      · exact h2
      · exact tr _ _ _ h4 h2
    · refine .inr ⟨i, j', ?_, hj', h3, h4'⟩
      have : j = i' ∨ cM ls ps (pz ls ps j) (pz ls ps i') = true := by
        rcases h4 with h4 | h4
        · rcases h3' with h5 | h5
          · exact .inl (pz_inj hj (by omega) (h4.symm.trans h5))
          · rw [← h4]; exact .inr h5
        · rcases h3' with h5 | h5
          · rw [← h5]; exact .inr h4
          · exact .inr (tr _ _ _ h4 h5)
      rcases this with h | h
      · omega
      · have := cM_fwd hn hj (by omega) h; omega
open Classical in
theorem nW_all (hu : Uq ls) (hn : noM ls ps) {x y : Nat} (e : cM ls (psN ls ps) x y = true) : nW ls ps x y := by
  have := clo_least (N := fun x y => decide (nW ls ps x y)) (ofM_sup (psN ls ps) ls.length) (fun x y z h1 h2 => by
    rw [decide_eq_true_eq] at *; exact nW_tr hn h1 h2) (fun x y h => by
    rw [decide_eq_true_eq]
    obtain ⟨h1, h2, h3⟩ := ofM_in.1 h
    rcases (psN_mem hu).1 h3 with h3 | ⟨i, h0, hi, hc, h4⟩
    · exact .inl (clo_ge (ofM_sup _ _) (ofM_in.2 ⟨h1, h2, h3⟩))
    · simp only [Prod.mk.injEq] at h4
      exact .inr ⟨i - 1, i, by omega, hi, .inl (by omega), .inl (by omega)⟩) e
  rw [decide_eq_true_eq] at this
  exact this
theorem new_lt (hu : Uq ls) (hn : noM ls ps) {i j : Nat} (hi : i < (ordL ls ps).length) (hj : j < (ordL ls ps).length) : cM ls (psN ls ps) (pz ls ps i) (pz ls ps j) = true ↔ i < j := by
  constructor
  · intro e
    rcases nW_all hu hn e with h | ⟨a, b, hab, hb, h3, h4⟩
    · exact cM_fwd hn hi hj h
    · have g1 : i ≤ a := by
        rcases h3 with h | h
        · exact Nat.le_of_eq (pz_inj hi (by omega) h)
        · exact Nat.le_of_lt (cM_fwd hn hi (by omega) h)
      have g2 : b ≤ j := by
        rcases h4 with h | h
        · exact Nat.le_of_eq (pz_inj hj hb h).symm
        · exact Nat.le_of_lt (cM_fwd hn hb hj h)
      omega
  · intro hij
    have step : ∀ k, 0 < k → k < (ordL ls ps).length → cM ls (psN ls ps) (pz ls ps (k - 1)) (pz ls ps k) = true := fun k h0 hk => by
      cases hc : cM ls ps (pz ls ps (k - 1)) (pz ls ps k) with
      | true => exact cM_up (fun p hp => (psN_mem hu).2 (.inl hp)) hc
      | false => exact clo_ge (ofM_sup _ _) (ofM_in.2 ⟨pz_lt (by omega), pz_lt hk, (psN_mem hu).2 (.inr ⟨k, h0, hk, hc, rfl⟩)⟩)
    have : ∀ d, i + 1 + d < (ordL ls ps).length → cM ls (psN ls ps) (pz ls ps i) (pz ls ps (i + 1 + d)) = true := fun d => by
      induction d with
      | zero => intro h; exact step (i + 1) (by omega) h
      | succ d ih => intro h; exact cM_tr _ _ _ (ih (by omega)) (step (i + 1 + (d + 1)) (by omega) h)
    have := this (j - i - 1) (by omega)
    rw [show i + 1 + (j - i - 1) = j by omega] at this
    exact this
theorem ord_at {x : Nat} (hx : x < (alv ls).length) : ∃ i, ∃ hi : i < (ordL ls ps).length, (ordL ls ps)[i] = x := List.mem_iff_getElem.1 (((ord_spec (ls := ls) (ps := ps)).1 x).2 hx)
theorem new_rM (hu : Uq ls) (hn : noM ls ps) {i j : Nat} (hi : i < (ordL ls ps).length) (hj : j < (ordL ls ps).length) : rM ls (psN ls ps) (ordL ls ps)[i] (ordL ls ps)[j] = true ↔ i < j := by rw [cM_pz hi hj, new_lt hu hn hi hj]
theorem new_lin (hu : Uq ls) (hn : noM ls ps) : linB ls (psN ls ps) = true := by
  unfold linB
  rw [totB_iff]
  refine ⟨fun a ha => ?_, fun a ha b hb => ?_⟩
  · obtain ⟨i, hi, rfl⟩ := ord_at (ps := ps) ha
    cases e : rM ls (psN ls ps) (ordL ls ps)[i] (ordL ls ps)[i] with
    | false => rfl
    | true => have := (new_rM hu hn hi hi).1 e; omega
  · obtain ⟨i, hi, rfl⟩ := ord_at (ps := ps) ha
    obtain ⟨j, hj, rfl⟩ := ord_at (ps := ps) hb
    rw [new_rM hu hn hi hj, new_rM hu hn hj hi]
    rcases Nat.lt_trichotomy i j with h | h | h
    · exact .inr (.inl h)
    · subst h; exact .inl rfl
    · exact .inr (.inr h)
theorem new_ord (hu : Uq ls) (hn : noM ls ps) : ordL ls (psN ls ps) = ordL ls ps := by
  have s1 := ord_spec (ls := ls) (ps := ps)
  have s2 := ord_spec (ls := ls) (ps := psN ls ps)
  have hp : (ordL ls (psN ls ps)).Perm (ordL ls ps) := (List.perm_ext_iff_of_nodup s2.2.1 s1.2.1).2 fun x => by rw [s1.1, s2.1]
  refine List.Perm.eq_of_pairwise (le := fun x y => rM ls (psN ls ps) x y = true) (fun a b ha hb h1 h2 => ?_) ?_ ?_ hp
  · obtain ⟨i, hi, rfl⟩ := ord_at (ps := ps) ((s2.1 _).1 ha)
    obtain ⟨j, hj, rfl⟩ := ord_at (ps := ps) ((s1.1 _).1 hb)
    have := (new_rM hu hn hi hj).1 h1
    have := (new_rM hu hn hj hi).1 h2
    omega
  · have hnd : (ordL ls (psN ls ps)).Pairwise (· ≠ ·) := s2.2.1
    refine List.Pairwise.imp_of_mem ?_ (hnd.and s2.2.2.1)
    rintro a b ha hb ⟨hne, h⟩
    obtain ⟨i, hi, rfl⟩ := ord_at (ps := ps) ((s2.1 _).1 ha)
    obtain ⟨j, hj, rfl⟩ := ord_at (ps := ps) ((s2.1 _).1 hb)
    rw [new_rM hu hn hi hj]
    rcases Nat.lt_trichotomy i j with h1 | h1 | h1
    · exact h1
    · subst h1; exact absurd rfl hne
    · refine absurd ⟨(new_rM hu hn hj hi).2 h1, ?_⟩ h
      cases e : rM ls (psN ls ps) (ordL ls ps)[i] (ordL ls ps)[j] with
      | false => rfl
      | true => have := (new_rM hu hn hi hj).1 e; omega
  · rw [List.pairwise_iff_getElem]
    exact fun i j hi hj hij => (new_rM hu hn hi hj).2 hij
theorem new_oId (hu : Uq ls) (hn : noM ls ps) (i : Nat) : oId ls (psN ls ps) i = oId ls ps i := by unfold oId; rw [new_ord hu hn]
end
theorem RdH.le {Hz Hy : Hp} {h : Hk} {x : HD} (w : RdH Hz h x) (l : Le Hz Hy) : RdH Hy h x := ⟨w.1.le l, w.2.1.le l, w.2.2.le l⟩
theorem resolveDoes_law {cs0 : List Value} {x0 : ByteArray × List ((Int × Int) × ByteArray × Bool) × List (Int × Int)} {H : Hp} (s0 : fileE.rep H cs0 x0) (hT : Tz H) :
    CallH prog centolaw15_ResolveDoes.num [.agg ⟨cs0⟩] H fun v H' => liftB v fun r => r = true ∧ Le H H' := by
  obtain ⟨lp, ll, lc, pp, pl, pc, rfl, hL, hP, hml⟩ := fileE_rep s0
  generalize x0.2.1.map toLn = ls at hL
  generalize x0.2.2 = ps at hP
  generalize x0.1 = f
  show centolaw15_ResolveDoes.C f lp ll lc pp pl pc H fun r H' => r = true ∧ Le H H'
  apply centolaw15_ResolveDoes.of
  have e1 := hL.len
  have e2 := hP.len
  refine newD3 fun q0 H0 _ d l0 => ?_
  refine centolaw15_known.c (hT.le l0) fun H3 l3 => bcn (fun h => by cases h) fun _ => ?_
  have d := d.le l3
  have l0 := l0.trans l3
  refine d.get (centolaw15_few.c (hL.le l0) (hP.le l0) hml fun H4 l4 => bcn (fun _ => ⟨rfl, l0.trans l4⟩) fun f1 => ?_)
  obtain ⟨g1, g2, _⟩ := fewV_len f1
  have d := d.le l4
  have l0 := l0.trans l4
  refine d.get (centolaw15_right.c (hL.le l0) (by omega) fun H5 l5 => bcn (fun _ => ⟨rfl, l0.trans l5⟩) fun hr => ?_)
  have hu := uq_right hr
  have d := d.le l5
  have l0 := l0.trans l5
  unfold centolaw15_ResolveDoes.k1
  refine d.get (resolve_All.c hu (hL.le l0) (hP.le l0) (hT.le l0) (by omega) (by omega) fun Ha xa la wa _ => D4.mk fun p1 Hb _ d1 lb => ?_)
  have l1 := la.trans lb
  have d := d.le l1
  have l0 := l0.trans l1
  have wa := RdH.le wa lb
  refine d.get (view_Show.c (hL.le l0) (hP.le l0) (hT.le l0) (by omega) (by omega) fun sp sl sc H6 hB6 l6 => ?_)
  have d := d.le l6
  have d1 := d1.le l6
  have wa := RdH.le wa l6
  have l0 := l0.trans l6
  have hS := hB6.sn shC_len (by decide)
  have es := hS.len
  have eo := shL_len (ls := ls) (ps := ps)
  have ea := alv_len (ls := ls)
  have eq := (ord_spec (ls := ls) (ps := ps)).2.2.2
  clear hB6
  refine ⟨fun c t Hx => ∃ i : Nat, t = (i : Nat) ∧ i ≤ sl ∧ Hx = H6 ∧ c = ((shL ls ps).take i).any (fun s => decide (s.m = 33)), fun _ t _ => ((sl : Int) - t).toNat, ⟨0, rfl, Nat.zero_le _, rfl, by simp⟩, ?_⟩
  rintro c t Hx ⟨i, rfl, gi, rfl, rfl⟩
  refine bcd (fun hlt => ?_) fun hlt => ?_
  · have hi : i < (shL ls ps).length := by omega
    refine bc_i (fun hc => ?_) fun hc => ?_
    · refine chk (by omega) ⟨⟨i + 1, by omega, by omega, rfl, ?_⟩, by first | omega | (dsimp only; omega)⟩
      rw [List.take_succ_eq_append_getElem hi, List.any_append, hc, Bool.true_or]
    · obtain ⟨be, oe, rfl, hr⟩ := hS.at hi
      refine idxN i rfl (by omega) (nil (ldI_i (hr i hi 2 _ rfl) (chk (by omega) ⟨⟨i + 1, by omega, by omega, rfl, ?_⟩, by first | omega | (dsimp only; omega)⟩)))
      rw [List.take_succ_eq_append_getElem hi, List.any_append, hc, Bool.false_or]
      simp only [List.any_cons, List.any_nil, Bool.or_false]
      refine decide_eq_decide.2 ⟨fun e => UInt8.toNat_inj.1 (by show _ = 33; omega), fun e => by rw [e]; rfl⟩
  have hti : (shL ls ps).take i = shL ls ps := List.take_of_length_le (by omega)
  rw [hti]
  clear hti hlt gi
  by_cases hl : linB ls ps = true
  · have e : allR ls ps (L f) = (hk0, 20) := by unfold allR; rw [if_pos hl]
    rw [e] at wa ⊢
    have n1 : xa.el = 0 := wa.2.1.len
    refine bcd (fun _ => ?_) fun h => absurd (by decide) h
    refine ldL_i d1.2.2.1 (bcd (fun _ => ?_) fun h => absurd (by rw [n1]; rfl) h)
    refine d.get (view_Linear.c (hL.le l0) (hP.le l0) (hT.le l0) (by omega) (by omega) fun H7 l7 => ?_)
    rw [hl]
    refine bcd (fun _ => ?_) fun h => absurd (by decide) h
    exact bcd (fun _ => ⟨rfl, l0.trans l7⟩) fun h => absurd rfl h
  by_cases hm : (shL ls ps).any (fun s => decide (s.m = 33)) = true
  · have e : allR ls ps (L f) = (hk0, 11) := by unfold allR; rw [if_neg hl, if_pos hm]
    rw [e] at wa ⊢
    rw [hm]
    have n1 : xa.el = 0 := wa.2.1.len
    refine bcd (fun _ => ?_) fun h => absurd (by decide) h
    refine ldL_i d1.2.2.1 (bcd (fun _ => ?_) fun h => absurd (by rw [n1]; rfl) h)
    refine d.get (view_Linear.c (hL.le l0) (hP.le l0) (hT.le l0) (by omega) (by omega) fun H7 l7 => ?_)
    rw [Bool.not_eq_true] at hl
    rw [hl]
    refine bcd (fun _ => ?_) fun h => absurd (by decide) h
    exact bcd (fun h => absurd h (by decide)) fun _ => bcd (fun _ => ⟨rfl, l0.trans l7⟩) fun h => absurd rfl h
  rw [Bool.not_eq_true] at hm
  have hn := noM_of hm
  have e : allR ls ps (L f) = (⟨L f, [], srtE (nbTo ls ps (ordL ls ps).length), []⟩, 0) := by unfold allR; rw [if_neg hl, if_neg (by rw [hm]; decide)]
  rw [e] at wa ⊢
  rw [e] at d1
  rw [hm]
  have nl := nbTo_len (ls := ls) (ps := ps) (ordL ls ps).length
  have nl2 := (srtE_perm (nbTo ls ps (ordL ls ps).length)).length_eq
  refine bcd (fun h => absurd rfl h) fun _ => ?_
  refine d.get (d1.get (centolaw15_with.c (h := ⟨L f, [], srtE (nbTo ls ps (ordL ls ps).length), []⟩) (x := xa) (hL.le l0) (hP.le l0) (by omega) (by omega) wa ⟨by show (srtE _).length ≤ 1000; omega, Nat.zero_le _⟩ (fun k hk => by cases hk) ?_))
  intro lp' ll' lc' pp' pl' pc' H7 l7 hL' hP'
  have hL' : Sn 4 lnC H7 lp' ll' lc' ls := hL'
  have hP' : Sn 2 pairC H7 pp' pl' pc' (psN ls ps) := hP'
  have e1' := hL'.len
  have e2' := hP'.len
  have e3' : (psN ls ps).length ≤ 100000 := by unfold psN wPs; rw [List.length_append, List.length_map]; omega
  refine D3.mk fun g H8 _ dg l8 => dg.get ?_
  have l78 := l7.trans l8
  refine view_Show.c (hL'.le l8) (hP'.le l8) (hT.le (l0.trans l78)) (by omega) (by omega) fun tp tl tc H9 hB9 l9 => bcF ?_
  have hS9 := hB9.sn shC_len (by decide)
  have es9 := hS9.len
  have eo9 := shL_len (ls := ls) (ps := psN ls ps)
  have dg := dg.le l9
  refine dg.get (view_Linear.c (hL'.le (l8.trans l9)) (hP'.le (l8.trans l9)) (hT.le ((l0.trans l78).trans l9)) (by omega) (by omega) fun H10 l10 => ?_)
  rw [new_lin hu hn]
  rw [new_ord hu hn] at eo9
  refine bcn (fun h => by cases h) fun _ => bcd (fun h => absurd (by omega) h) fun _ => ?_
  unfold centolaw15_ResolveDoes.k2
  have lz := (l78.trans l9).trans l10
  have hSa := hS.le lz
  have hSb := hS9.le l10
  refine ⟨fun t Hy => ∃ j : Nat, t = (j : Nat) ∧ j ≤ sl ∧ Hy = H10, fun t _ => ((sl : Int) - t).toNat, ⟨0, rfl, Nat.zero_le _, rfl⟩, ?_⟩
  rintro t Hy ⟨j, rfl, gj, rfl⟩
  refine bcd (fun hlt2 => ?_) fun _ => ⟨rfl, l0.trans lz⟩
  have hj : j < (shL ls ps).length := by omega
  have hj9 : j < (shL ls (psN ls ps)).length := by omega
  obtain ⟨y1, y2⟩ := shL_at hj
  obtain ⟨z1, z2⟩ := shL_at hj9
  refine rsShI hSb rfl hj9 (rsShI hSa rfl hj ?_)
  rw [y1, y2, z1, z2, new_oId hu hn]
  rw [lidBe, decide_eq_true rfl]
  exact bcF (chk (by omega) ⟨⟨j + 1, by omega, by omega, rfl⟩, by first | omega | (dsimp only; omega)⟩)

theorem resolveDoes_own : ownKnob Tryd.prog.godebug = none := by kernel_rfl
theorem resolveDoes_laid : laidOutB Tryd.prog = true := by kernel_rfl
set_option maxRecDepth 100000 in
theorem resolveDoes_lifted (os : Os) (started : os.Started) (H : Type) (enc : TypeId × Value → H) :
    ReturnsInHanded {} Tryd.checked os 4 .any (fun w args => (Rows.resolveDoesSpec.pre enc Tryd.prog Tryd.f4 [] false w args ∧ laidMetH Tryd.prog laidTz w) ∧ sizedMet enc Tryd.prog Tryd.f4 (OpenSpec.ofChange Rows.resolveDoesSpec) false w args)
      (Rows.resolveDoesSpec.post enc Tryd.prog Tryd.f4 false true false false) := by
  refine returnsInHanded_of_change_and (C := Tryd.checked) (X := fun w _ => laidMetH Tryd.prog laidTz w) (fun _ _ _ hh h => h.of_heap hh) resolveDoes_own started (by kernel_rfl) Tryd.func4
    (ChangeSpec.witness_shaped (enc := enc) (C := Tryd.checked) (os := os) (X := fun w _ => laidMetH Tryd.prog laidTz w) false (World.doorLaid Tryd.prog 400 os) #[.agg #[.string .empty, .slice none 0 0, .slice none 0 0]] 8 rfl (World.shaped_of_RefB (by kernel_rfl) (by kernel_rfl)) (by kernel_rfl) (by kernel_rfl) (by kernel_rfl) (door_met os _)) ?_
  intro W base args ds gs before hval0 hW _ _ hL _
  have hval : ∀ (j : Nat) t v, Tryd.f4.params[j]? = some t → args[j]? = some v → Value.okWide Tryd.prog W .any base t v := hval0
  have hW' := hW
  obtain ⟨p, q, hA0, hV, rfl, hfz, hnd⟩ := hW
  have hA : DataW.TrodAll enc Tryd.prog W 0 (fun _ => true) true Tryd.f4.params.toList args.toList ds p := hA0
  rw [Tryd.params4] at hA hval
  obtain ⟨v0, d0, rfl, rfl, h0⟩ := trodAll_one hA
  obtain ⟨cs0, x0, rfl, s0⟩ := openSt Tryd.underlying25 (opens_st Tryd.underlying25 (by kernel_rfl) (opensF_cons rfl (opens_str Tryd.underlying9 (by kernel_rfl)) rfl (opensF_cons rfl (opens_sl (by decide) Tryd.underlying22 (by kernel_rfl) (opens_st Tryd.underlying53 (by kernel_rfl) (opensF_cons rfl (opens_st Tryd.underlying28 (by kernel_rfl) (opensF_cons rfl (opens_int Tryd.underlying26 (by kernel_rfl)) rfl (opensF_one rfl (opens_int Tryd.underlying3 (by kernel_rfl))))) rfl (opensF_cons rfl (opens_str Tryd.underlying9 (by kernel_rfl)) rfl (opensF_one rfl (opens_bool Tryd.underlying4 (by kernel_rfl))))))) rfl (opensF_one rfl (opens_sl (by decide) Tryd.underlying23 (by kernel_rfl) (opens_st Tryd.underlying77 (by kernel_rfl) (opensF_cons rfl (opens_int Tryd.underlying3 (by kernel_rfl)) rfl (opensF_one rfl (opens_int Tryd.underlying3 (by kernel_rfl)))))))))) (hval 0 25 v0 rfl rfl) h0 (fun x hx => by simp [hx]) hfz
  refine (calls_true (resolveDoes_law s0 (tz_of_laid hL)) Tryd.func4 (by kernel_rfl)).mono fun e W' ⟨he, hk⟩ => ?_
  subst he
  exact ⟨_, rfl, post_true resolveDoes_laid hW' (by kernel_rfl) rfl rfl rfl Tryd.underlying4 hk⟩

theorem resolveDoes_row : Rows.ResolveDoesSaid :=
  OpenClaim.holds_of_wide 4 Tryd.f4 rfl rfl rfl rfl rfl rfl rfl ⟨rfl, rfl, rfl, rfl, rfl⟩ rfl rfl rfl rfl rfl (by kernel_rfl) Tryd.func4 (by kernel_rfl)
    (of_decide_eq_true (by kernel_rfl)) (by unfold Func.isWrapper; first | (rw [if_pos (by decide +kernel)]; kernel_rfl) | (rw [if_neg (by decide +kernel)]; exact ⟨rfl, rfl⟩))
    (fun os started H enc _ => resolveDoes_lifted os started H enc)

theorem resolveDoes_card : Rows.ResolveDoesCardSaid :=
  Claim7.holds_tied_plain_at .later [] [.data] true (true, "1742c24b9215d7ca8645109c8f16d9e845d7caad132e2324de6df02b83e6f8a9") false
    resolveDoes_row (fun _ h => by cases h) (by kernel_rfl) (fun _ h => by cases h) resolveDoes_row_tie rfl ⟨rfl, rfl⟩ (by kernel_rfl) rfl
    (fun f fn hf hfn => by
      obtain rfl : f = 4 := Option.some.inj ((show Tryd.prog.funcNamed Rows.resolveDoesRow.func = some 4 by kernel_rfl).symm.trans hf) |>.symm
      obtain rfl : fn = Tryd.f4 := (Option.some.inj (Tryd.func4.symm.trans hfn)).symm
      exact ⟨by kernel_rfl, fun j t ht => by
        rw [Tryd.params4] at ht
        have hm : t ∈ [25] := by
          have := Array.mem_of_getElem? ht
          simp at this
          first | (rcases this with rfl <;> simp) | simp [this]
        have hall : ([25].all fun u => !Tryd.prog.wantsStandIn u) = true := by kernel_rfl
        exact (show Tryd.prog.wantsStandIn t = false by simpa using List.all_eq_true.1 hall t hm)⟩)
    (by kernel_rfl)
end Go.Proofs.YtganockeifkecaaDoor
