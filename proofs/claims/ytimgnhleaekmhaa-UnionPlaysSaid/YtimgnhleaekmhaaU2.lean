/- Contracts. -/
import Derived.Test.YtimgnhleaekmhaaU1
namespace Go.Proofs.Ytimgnhleaekmhaa
open Go.V
theorem union_New.c {n : Int} {H : Hp} {K : Option Addr → Hp → Prop}
    (hK : ∀ u q H', UF H' u q (List.range (min (max n 0) 1000).toNat) → H u = none → H q = none → Le H H' → K (some ⟨u, 0, none⟩) H') : union_New.C n H K := by
  apply union_New.of
  obtain ⟨m, hm⟩ : ∃ m : Nat, m = (min (max n 0) 1000).toNat := ⟨_, rfl⟩
  rw [← hm] at hK
  refine mk (n := m) (by omega) (by omega) (by omega) ?_
  intro q hq u hu
  have hqu : u ≠ q := fun e => by subst e; simp [upd] at hu
  have hu0 : H u = none := none_of_le (.upd hq) hu
  have hUn : ∀ {Hx : Hp} {to : List Nat}, to.length = m → rd Hx u 0 = some (.slice (some ⟨q, 0, none⟩) m m) → (∃ cs, Hx q = some cs) → (∀ i (h : i < to.length), rd Hx q i = some (iv to[i])) → Un Hx u q to := fun hl h1 h2 h3 =>
    ⟨hqu, ⟨m, by omega, by rw [hl]; exact h1⟩, h2, h3⟩
  refine ldL_i (by rw [rd_upd_self]; rfl) ?_
  refine ⟨fun t H' => ∃ t' : Nat, t = t' ∧ t' ≤ m ∧ Le H H' ∧ Un H' u q ((List.range m).map fun i => if i < t' then i else 0), fun t _ => (m - t).toNat, ⟨0, rfl, by omega, (Le.upd hq).trans (.upd hu), hUn (by simp) (by rw [rd_upd_self]; rfl) ⟨_, by rw [upd_ne (Ne.symm hqu)]; unfold upd; rw [if_pos rfl]⟩ fun i hi => ?_⟩, ?_⟩
  · simp at hi
    rw [rd_upd_ne (Ne.symm hqu), rd_rep hi]; simp [iv]
  rintro t H1 ⟨t, rfl, ht, hle, hU⟩
  obtain ⟨c, hc, hrd⟩ := hU.2.1
  simp only [List.length_map, List.length_range] at hc hrd
  refine bcd (fun h => ?_) (fun h => ?_)
  · refine ldL_i hrd ?_
    refine idx (by omega) ?_
    refine nil ?_
    have hlt : t < ((List.range m).map fun i => if i < t then i else 0).length := by simp; omega
    refine st0 (hU.2.2.2 t hlt) ?_
    refine chk (by omega) ⟨⟨t + 1, by omega, by omega, hle.wr hq, ?_⟩, by dsimp only; omega⟩
    have := hU.put (x := t) hlt
    have e : ((List.range m).map fun i => if i < t then i else 0).set t t = (List.range m).map fun i => if i < t + 1 then i else 0 := by
      apply List.ext_getElem
      · simp
      · intro i h1 h2
        simp only [List.getElem_set, List.getElem_map, List.getElem_range]
        split
        · rw [if_pos (by omega)]; omega
        · simp only [List.length_map, List.length_range] at h2
          by_cases h : i < t
          · rw [if_pos h, if_pos (by omega)]
          · rw [if_neg h, if_neg (by omega)]
    rw [e] at this
    exact this
  · have : t = m := by omega
    subst this
    refine hK u q H1 ⟨List.range t, ?_, fun i h => by simp, by simp, fun i h => ?_⟩ hu0 hq hle
    · have e : ((List.range t).map fun i => if i < t then i else 0) = List.range t := by
        apply List.ext_getElem
        · simp
        · intro i h1 h2
          simp at h1 ⊢
          exact fun h => by omega
      rw [e] at hU; exact hU
    · simp at h
      rw [rt_root (by simp [List.getD, h])]; simp

theorem union_Union_Len.c {u q : Nat} {L : List Nat} {H : Hp} {K : Int → Hp → Prop} (hu : UF H u q L) (hK : K (L.length : Nat) H) : union_Union_Len.C (some ⟨u, 0, none⟩) H K := by
  apply union_Union_Len.of
  obtain ⟨c, h, _⟩ := hu.at
  exact nil (ldL_i h hK)

/-- Joined: the classes, and whether they weren't one. -/
def jnB (L : List Nat) (a b : Int) : Bool := decide (0 ≤ a ∧ a < (L.length : Int) ∧ 0 ≤ b ∧ b < (L.length : Int) ∧ lstI L a ≠ lstI L b)
def jnL (L : List Nat) (a b : Int) : List Nat := if jnB L a b then L.map fun (z : Nat) => if (z : Int) = max (lstI L a) (lstI L b) then (min (lstI L a) (lstI L b)).toNat else z else L
theorem jnL_length {L : List Nat} {a b : Int} : (jnL L a b).length = L.length := by unfold jnL; split <;> simp
theorem lstI_in {L : List Nat} {a : Int} (h : 0 ≤ a ∧ a < (L.length : Int)) : ∃ h' : a.toNat < L.length, lstI L a = (L[a.toNat] : Nat) := by
  refine ⟨by omega, ?_⟩
  have : a.toNat < L.length := by omega
  rw [lstI, if_pos h]; simp [List.getD, this]
theorem lstI_out {L : List Nat} {a : Int} (h : ¬ (0 ≤ a ∧ a < (L.length : Int))) : lstI L a = -1 := by rw [lstI, if_neg h]
theorem lstI_neg {L : List Nat} {a : Int} : lstI L a = -1 ↔ ¬ (0 ≤ a ∧ a < (L.length : Int)) := by
  constructor
  · intro h h'
    obtain ⟨_, e⟩ := lstI_in h'
    omega
  · exact lstI_out

theorem union_Union_Join.c {u q : Nat} {L : List Nat} {a b : Int} {H : Hp} {K : Bool → Hp → Prop} (hu : UF H u q L) (hK : ∀ H', UF H' u q (jnL L a b) → Mod [q] H H' → K (jnB L a b) H') : union_Union_Join.C (some ⟨u, 0, none⟩) a b H K := by
  apply union_Union_Join.of
  refine union_Union_Least.c hu fun H1 u1 m1 => union_Union_Least.c u1 fun H2 u2 m2 => ?_
  have m12 := m1.trans m2
  have no : jnB L a b = false → K false H2 := fun h => by
    have e : jnL L a b = L := by unfold jnL; rw [h]; simp
    rw [← h]; exact hK H2 (by rw [e]; exact u2) m12
  refine bcd (fun h => no ?_) (fun ha => bcd (fun h => no ?_) (fun hb => bcd (fun h => no ?_) (fun hne => ?_)))
  · rw [lstI_neg] at h; unfold jnB; exact decide_eq_false (fun g => h ⟨g.1, g.2.1⟩)
  · rw [lstI_neg] at h; unfold jnB; exact decide_eq_false (fun g => h ⟨g.2.2.1, g.2.2.2.1⟩)
  · unfold jnB; exact decide_eq_false (fun g => g.2.2.2.2 h)
  · rw [lstI_neg, Decidable.not_not] at ha hb
    have hB : jnB L a b = true := decide_eq_true ⟨ha.1, ha.2, hb.1, hb.2, hne⟩
    have hg := u2.good
    obtain ⟨ia, ea⟩ := lstI_in ha
    obtain ⟨ib, eb⟩ := lstI_in hb
    obtain ⟨ga, ha', ga'⟩ := hg _ ia
    obtain ⟨gb, hb', gb'⟩ := hg _ ib
    have ⟨to, hU, hok, hl, hL⟩ := u2
    obtain ⟨c, hc, hrd⟩ := hU.2.1
    obtain ⟨x, hx⟩ : ∃ x : Nat, min (lstI L a) (lstI L b) = x := ⟨(min (lstI L a) (lstI L b)).toNat, by omega⟩
    obtain ⟨y, hy⟩ : ∃ y : Nat, max (lstI L a) (lstI L b) = y := ⟨(max (lstI L a) (lstI L b)).toNat, by omega⟩
    have hyl : y < to.length := by omega
    have rxy : rt to x = x ∧ rt to y = y := by
      have e1 := hL _ ha'
      have e2 := hL _ hb'
      rw [ga'] at e1; rw [gb'] at e2
      rcases Nat.lt_or_ge L[a.toNat] L[b.toNat] with h | h
      · have : x = L[a.toNat] := by omega
        have : y = L[b.toNat] := by omega
        subst x y; exact ⟨e1.symm, e2.symm⟩
      · have : x = L[b.toNat] := by omega
        have : y = L[a.toNat] := by omega
        subst x y; exact ⟨e2.symm, e1.symm⟩
    unfold union_Union_Join.k1
    rw [hx, hy]
    refine nil ?_
    refine ldL_i hrd ?_
    refine idx hyl ?_
    refine nil ?_
    refine st0 (hU.2.2.2 y hyl) ?_
    rw [← hB]
    refine hK _ ⟨to.set y x, hU.put hyl, hok.set (by omega), by simpa [jnL_length] using hl, fun i hi => ?_⟩ (m12.wr (.inl (by simp)))
    have hi' : i < L.length := by rwa [jnL_length] at hi
    rw [rt_join hok hyl (by omega) rxy.1 rxy.2 i, ← hL i hi']
    simp only [jnL, hB, if_true, List.getElem_map, hx, hy, Int.toNat_natCast]
    by_cases h : L[i] = y
    · rw [if_pos h, if_pos (by omega)]
    · rw [if_neg h, if_neg (by omega)]

def smB (L : List Nat) (a b : Int) : Bool := decide (0 ≤ a ∧ a < (L.length : Int) ∧ lstI L a = lstI L b)
theorem union_Union_Same.c {u q : Nat} {L : List Nat} {a b : Int} {H : Hp} {K : Bool → Hp → Prop} (hu : UF H u q L) (hK : ∀ H', UF H' u q L → Mod [q] H H' → K (smB L a b) H') : union_Union_Same.C (some ⟨u, 0, none⟩) a b H K := by
  apply union_Union_Same.of
  refine union_Union_Least.c hu fun H1 u1 m1 => ?_
  refine bcd (fun h => ?_) (fun h => ?_)
  · refine union_Union_Least.c u1 fun H2 u2 m2 => union_Union_Least.c u2 fun H3 u3 m3 => ?_
    have := hK H3 u3 ((m1.trans m2).trans m3)
    rw [lstI_neg, Decidable.not_not] at h
    have e : smB L a b = decide (lstI L a = lstI L b) := by unfold smB; simp [h.1, h.2]
    rwa [e] at this
  · have := hK H1 u1 m1
    rw [Decidable.not_not, lstI_neg] at h
    have e : smB L a b = false := decide_eq_false (fun g => h ⟨g.1, g.2.1⟩)
    rwa [e] at this

theorem slices_Clone_int_int.c {p : Option Addr} {l c : Nat} {xs : List Nat} {H : Hp} {K : Option Addr → Nat → Nat → Hp → Prop} (h : Sl iv H p l c xs) (hp : PtOk p) (hl : xs.length ≤ 1000000000) (hnil : p = none → l = 0)
    (hK : ∀ p' c' H', Buf 1 H H' p' l c' (xs.map iv) → (p = none ↔ p' = none) → Le H H' → K p' l c' H') : slices_Clone_int_int.C p l c H K := by
  apply slices_Clone_int_int.of
  have := h.len
  exact clone1 rfl rfl (by decide) rfl (fun _ => rfl) h hp (by simp [te_int]; omega) hnil hK

theorem UF.sl {H : Hp} {u q : Nat} {to : List Nat} (h : Un H u q to) : ∃ c, rd H u 0 = some (.slice (some ⟨q, 0, none⟩) to.length c) ∧ Sl iv H (some ⟨q, 0, none⟩) to.length c to := by
  obtain ⟨_, ⟨c, hc, hrd⟩, _, hto⟩ := h
  exact ⟨c, hrd, rfl, hc, .inr ⟨q, 0, rfl, fun i hi => by rw [Nat.zero_add]; exact hto i hi⟩⟩

theorem union_Union_Copy.c {u q : Nat} {L : List Nat} {H : Hp} {K : Option Addr → Hp → Prop} (hu : UF H u q L) (hl : L.length ≤ 1000)
    (hK : ∀ u' q' H', UF H' u' q' L → H u' = none → H q' = none → Le H H' → K (some ⟨u', 0, none⟩) H') : union_Union_Copy.C (some ⟨u, 0, none⟩) H K := by
  apply union_Union_Copy.of
  obtain ⟨to, hU, hok, hlen, hL⟩ := hu
  obtain ⟨c, hrd, hs⟩ := UF.sl hU
  refine nil ?_
  refine ldL_i hrd ?_
  refine slices_Clone_int_int.c hs .some (by omega) (fun h => by cases h) fun p' c' H' hB hiff hle => ?_
  intro u' hu'
  have hq : ∃ q', p' = some ⟨q', 0, none⟩ ∧ H q' = none ∧ (∃ cs, H' q' = some cs) := by
    rcases hB.2 with ⟨h0, _, _⟩ | ⟨b, r, h1, h2, h3, _⟩
    · have := hiff.2 h0; cases this
    · exact ⟨b, h1, h2, _, h3⟩
  obtain ⟨q', rfl, hq', cs, hcs⟩ := hq
  have hne : u' ≠ q' := fun e => by subst e; rw [hu'] at hcs; cases hcs
  have hle2 : Le H' (upd H' u' [.slice (some ⟨q', 0, none⟩) to.length c']) := .upd hu'
  have hs' := hB.sl
  refine hK u' q' _ ⟨to, ⟨hne, ⟨c', hs'.2.1, by rw [rd_upd_self]; rfl⟩, ⟨cs, hle2 _ _ hcs⟩, fun i hi => hle2.rd ?_⟩, hok, hlen, hL⟩ (none_of_le hle hu') hq' (hle.trans hle2)
  obtain ⟨b, o, e, h⟩ := hs'.at hi
  simp only [Option.some.injEq, Addr.mk.injEq, and_true] at e
  obtain ⟨rfl, rfl⟩ := e
  have := h i hi
  rwa [Nat.zero_add] at this
end Go.Proofs.Ytimgnhleaekmhaa
