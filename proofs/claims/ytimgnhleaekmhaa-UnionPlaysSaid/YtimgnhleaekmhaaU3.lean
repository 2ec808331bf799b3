/- Contracts. -/
import Derived.Test.YtimgnhleaekmhaaU2
namespace Go.Proofs.Ytimgnhleaekmhaa
open Go.V
/-! ### Places and classes -/
def plcS (L : List Nat) : Nat → List Nat × Nat
  | 0 => ([], 0)
  | t + 1 => let r := plcS L t
    if L.getD t 0 < t then (r.1 ++ [r.1.getD (L.getD t 0) 0], r.2) else (r.1 ++ [r.2], r.2 + 1)
theorem plcS_len (L : List Nat) : ∀ t, (plcS L t).1.length = t
  | 0 => rfl
  | t + 1 => by rw [plcS]; have := plcS_len L t; split <;> simp [this]
theorem plcS_le (L : List Nat) : ∀ t, (plcS L t).2 ≤ t
  | 0 => Nat.le_refl _
  | t + 1 => by rw [plcS]; have := plcS_le L t; split <;> simp only <;> omega
def plc (L : List Nat) : List Nat := (plcS L L.length).1
theorem getD_snoc {l : List Nat} {v i : Nat} : (l ++ [v]).getD i 0 = if i = l.length then v else l.getD i 0 := by
  simp only [List.getD, List.getElem?_append]
  split
  · rw [if_neg (by omega)]
  · split
    · subst_vars; simp
    · rw [List.getElem?_eq_none (by simp; omega), List.getElem?_eq_none (by omega)]
theorem lst_at {L : List Nat} {t : Nat} (h : t < L.length) : lstI L (t : Int) = (L.getD t 0 : Nat) := by rw [lstI, if_pos (by omega)]; rfl

/-- The row of places, as far as it is filled. -/
def PRow (H : Hp) (b : Nat) (n : Nat) (xs : List Nat) : Prop := ∀ i, i < n → rd H b i = some (iv (xs.getD i 0))
theorem PRow.mod {H H' : Hp} {b n : Nat} {xs : List Nat} {O : List Nat} (h : PRow H b n xs) (hm : Mod O H H') (hb : b ∉ O) : PRow H' b n xs := fun i hi => hm.rd hb (h i hi)
theorem PRow.put {H : Hp} {b n : Nat} {xs : List Nat} (h : PRow H b n xs) {v : Nat} : PRow (wr H b xs.length (iv v)) b n (xs ++ [v]) := fun i hi => by
  rw [getD_snoc]
  by_cases e : i = xs.length
  · subst e; rw [if_pos rfl, rd_wr_self (h _ hi)]
  · rw [if_neg e, rd_wr_off e]; exact h i hi
theorem PRow.zero {H : Hp} {b n : Nat} : PRow (upd H b (rep n [.int .i64 (0 : Int)])) b n [] := fun i hi => by rw [rd_rep hi]; simp [iv]
theorem PRow.sl {H : Hp} {b n c : Nat} {xs : List Nat} (h : PRow H b n xs) (hn : xs.length = n) (hc : n ≤ c) : Sl iv H (some ⟨b, 0, none⟩) n c xs :=
  ⟨hn.symm, hc, .inr ⟨b, 0, rfl, fun i hi => by rw [Nat.zero_add, h i (by omega)]; simp [List.getD, hi]⟩⟩

theorem union_Union_Places.c {u q : Nat} {L : List Nat} {H : Hp} {K : Option Addr → Nat → Nat → Hp → Prop} (hu : UF H u q L) (hl : L.length ≤ 1000)
    (hK : ∀ p c H', Sl iv H' p L.length c (plc L) → New H p → UF H' u q L → Mod [q] H H' → K p L.length c H') : union_Union_Places.C (some ⟨u, 0, none⟩) H K := by
  apply union_Union_Places.of
  obtain ⟨c, hrd, _⟩ := hu.at
  refine nil ?_
  refine ldL_i hrd ?_
  refine mk (n := L.length) rfl (by omega) (by omega) ?_
  intro b hb
  have hbq : b ∉ [q] := by simp; intro e; subst e; exact hu.q hb
  refine ⟨fun n t H' => ∃ t' : Nat, t = t' ∧ t' ≤ L.length ∧ n = (plcS L t').2 ∧ UF H' u q L ∧ Mod [q] H H' ∧ PRow H' b L.length (plcS L t').1, fun _ t _ => (L.length - t).toNat, ⟨0, rfl, by omega, rfl, hu.le (.upd hb), (Le.upd hb).mod, .zero⟩, ?_⟩
  rintro n t H1 ⟨t, rfl, ht, rfl, u1, m1, r1⟩
  have hle := plcS_le L t
  have hlen := plcS_len L t
  refine bcd (fun h => ?_) (fun h => ?_)
  · refine union_Union_Least.c u1 fun H2 u2 m2 => ?_
    have r2 := r1.mod m2 hbq
    have m12 := m1.trans m2
    have ht' : t < L.length := by omega
    rw [lst_at ht']
    have hg := (hu.good t ht').1
    have hge : L.getD t 0 = L[t] := by simp [List.getD, ht']
    have fin : ∀ v : Nat, (plcS L (t + 1)).1 = (plcS L t).1 ++ [v] → UF (wr H2 b (0 + t) (iv v)) u q L ∧ Mod [q] H (wr H2 b (0 + t) (iv v)) ∧ PRow (wr H2 b (0 + t) (iv v)) b L.length (plcS L (t + 1)).1 := fun v e => by
      have := r2.put (v := v)
      rw [hlen] at this
      rw [e, Nat.zero_add]
      refine ⟨u2.mod (O := [b]) (Mod.refl.wr (.inl (by simp))) ?_ ?_, m12.wr (.inr hb), this⟩
      · simp; intro e; subst e; exact hu.u hb
      · simp; intro e; subst e; exact hu.q hb
    have e0 : plcS L (t + 1) = if L.getD t 0 < t then ((plcS L t).1 ++ [(plcS L t).1.getD (L.getD t 0) 0], (plcS L t).2) else ((plcS L t).1 ++ [(plcS L t).2], (plcS L t).2 + 1) := rfl
    refine bcd (fun hlt => ?_) (fun hge' => ?_)
    · rw [if_pos (by omega)] at e0
      obtain ⟨f1, f2, f3⟩ := fin _ (by rw [e0])
      refine idx (by omega) ?_
      refine ldI_i (by rw [Nat.zero_add]; exact r2 _ (by omega)) ?_
      refine idx (by omega) ?_
      refine st0 (r2 t ht') ?_
      rw [Nat.zero_add] at f1 f2 f3
      exact chk (by omega) ⟨⟨t + 1, by omega, by omega, by rw [e0], f1, f2, f3⟩, by dsimp only; omega⟩
    · rw [if_neg (by omega)] at e0
      obtain ⟨f1, f2, f3⟩ := fin _ (by rw [e0])
      refine idx (by omega) ?_
      refine st0 (r2 t ht') ?_
      rw [Nat.zero_add] at f1 f2 f3
      exact chk (by omega) (chk (by omega) ⟨⟨t + 1, by omega, by omega, by rw [e0]; simp, f1, f2, f3⟩, by dsimp only; omega⟩)
  · obtain rfl : t = L.length := by omega
    exact hK _ _ _ (r1.sl hlen (Nat.le_refl _)) (.some hb) u1 m1

/-- Element t goes to row k (a new one, if there is none). -/
def clsP (rows : List (List Nat)) (k t : Nat) : List (List Nat) := if k = rows.length then rows ++ [[t]] else rows.set k (rows[k]?.getD [] ++ [t])
def clsS (P : List Nat) : Nat → List (List Nat)
  | 0 => []
  | t + 1 => clsP (clsS P t) (P.getD t 0) t
def cls (L : List Nat) : List (List Nat) := clsS (plc L) L.length
/-- Each place is one of those there are, or the next one. -/
def PlOk (P : List Nat) : Prop := ∀ t, t < P.length → P.getD t 0 ≤ (clsS P t).length
theorem clsP_len {rows : List (List Nat)} {k t : Nat} : (clsP rows k t).length = if k = rows.length then rows.length + 1 else rows.length := by unfold clsP; split <;> simp
theorem plcS_cls (L : List Nat) (P : List Nat) (n : Nat) (hP : ∀ t, t < n → P.getD t 0 = (plcS L n).1.getD t 0) (hpre : ∀ t i, i < t → t ≤ n → (plcS L n).1.getD i 0 = (plcS L t).1.getD i 0) :
    ∀ t, t ≤ n → (clsS P t).length = (plcS L t).2 ∧ ∀ i, i < t → (plcS L t).1.getD i 0 < (plcS L t).2
  | 0, _ => ⟨rfl, fun i h => by omega⟩
  | t + 1, ht => by
    obtain ⟨h1, h2⟩ := plcS_cls L P n hP hpre t (by omega)
    have e0 : plcS L (t + 1) = if L.getD t 0 < t then ((plcS L t).1 ++ [(plcS L t).1.getD (L.getD t 0) 0], (plcS L t).2) else ((plcS L t).1 ++ [(plcS L t).2], (plcS L t).2 + 1) := rfl
    have hPt : P.getD t 0 = (plcS L (t + 1)).1.getD t 0 := by rw [hP t (by omega), hpre (t + 1) t (by omega) ht]
    have hlen := plcS_len L t
    rw [clsS, clsP_len, hPt, e0]
    by_cases h : L.getD t 0 < t
    · rw [if_pos h]
      dsimp only
      have := h2 _ h
      refine ⟨?_, fun i hi => ?_⟩
      · rw [getD_snoc, if_pos hlen.symm, if_neg (by omega), h1]
      · rw [getD_snoc]; split
        · exact this
        · exact h2 i (by omega)
    · rw [if_neg h]
      dsimp only
      refine ⟨?_, fun i hi => ?_⟩
      · rw [getD_snoc, if_pos hlen.symm, if_pos h1.symm, h1]
      · rw [getD_snoc]; split
        · omega
        · have := h2 i (by omega); omega
theorem plcS_pre (L : List Nat) : ∀ d t i, i < t → (plcS L (t + d)).1.getD i 0 = (plcS L t).1.getD i 0
  | 0, _, _, _ => rfl
  | d + 1, t, i, h => by
    rw [← plcS_pre L d t i h]
    have hlen := plcS_len L (t + d)
    show (plcS L (t + d + 1)).1.getD i 0 = _
    rw [plcS]
    split <;> rw [getD_snoc, if_neg (by omega)]
theorem plc_ok (L : List Nat) : PlOk (plc L) ∧ (cls L).length = (plcS L L.length).2 := by
  have h := plcS_cls L (plc L) L.length (fun t _ => rfl) (fun t i hi ht => by
    have := plcS_pre L (L.length - t) t i hi
    rwa [show t + (L.length - t) = L.length by omega] at this)
  refine ⟨fun t ht => ?_, (h _ (Nat.le_refl _)).1⟩
  have hl := plcS_len L L.length
  have ht' : t < L.length := by have : (plc L).length = L.length := hl; omega
  rw [(h t (by omega)).1]
  have e : (plc L).getD t 0 = (plcS L (t + 1)).1.getD t 0 := by
    have := plcS_pre L (L.length - (t + 1)) (t + 1) t (by omega)
    rwa [show t + 1 + (L.length - (t + 1)) = L.length by omega] at this
  have h2 := (h (t + 1) (by omega)).2 t (by omega)
  rw [← e] at h2
  have h3 : (plcS L (t + 1)).2 ≤ (plcS L t).2 + 1 := by rw [plcS]; split <;> simp
  omega
/-- What stands in the rows: each element once, where its place is, rising. -/
theorem clsS_spec {P : List Nat} (hP : PlOk P) : ∀ t, t ≤ P.length →
    (∀ row ∈ clsS P t, row.Pairwise (· < ·) ∧ ∀ x ∈ row, x < t) ∧ (∀ i, i < t → P.getD i 0 < (clsS P t).length ∧ i ∈ (clsS P t)[P.getD i 0]?.getD []) ∧ ((clsS P t).map List.length).sum = t
  | 0, _ => ⟨fun row h => (by cases h), fun i h => (by omega), rfl⟩
  | t + 1, ht => by
    obtain ⟨h1, h2, h3⟩ := clsS_spec hP t (by omega)
    have hk := hP t (by omega)
    rw [clsS]
    generalize clsS P t = rows at *
    generalize hkk : P.getD t 0 = k at *
    unfold clsP
    by_cases e : k = rows.length
    · rw [if_pos e]
      refine ⟨fun row hr => ?_, fun i hi => ?_, by simp [h3]⟩
      · rcases List.mem_append.1 hr with hr | hr
        · exact ⟨(h1 row hr).1, fun x hx => by have := (h1 row hr).2 x hx; omega⟩
        · simp at hr; subst hr; simp
      · by_cases ei : i = t
        · subst ei; rw [hkk, e]; simp
        · obtain ⟨g1, g2⟩ := h2 i (by omega)
          refine ⟨by rw [List.length_append]; omega, ?_⟩
          rw [List.getElem?_append_left g1]; exact g2
    · rw [if_neg e]
      have hlt : k < rows.length := by omega
      have hget : rows[k]?.getD [] = rows[k] := by simp [hlt]
      rw [hget]
      refine ⟨fun row hr => ?_, fun i hi => ?_, ?_⟩
      · rcases List.mem_or_eq_of_mem_set hr with hr | rfl
        · exact ⟨(h1 row hr).1, fun x hx => by have := (h1 row hr).2 x hx; omega⟩
        · have hm := h1 rows[k] (List.getElem_mem hlt)
          refine ⟨List.pairwise_append.2 ⟨hm.1, by simp, fun x hx y hy => by simp at hy; subst hy; exact hm.2 x hx⟩, fun x hx => ?_⟩
          rcases List.mem_append.1 hx with hx | hx
          · have := hm.2 x hx; omega
          · simp at hx; omega
      · by_cases ei : i = t
        · subst ei; rw [hkk]; simp [hlt]
        · obtain ⟨g1, g2⟩ := h2 i (by omega)
          refine ⟨by simpa using g1, ?_⟩
          by_cases ek : P.getD i 0 = k
          · rw [ek] at g2 ⊢
            simp only [List.getElem?_set_self hlt, Option.getD_some]
            rw [hget] at g2
            exact List.mem_append_left _ g2
          · rw [List.getElem?_set_ne (Ne.symm ek)]; exact g2
      · rw [List.map_set, List.length_append, List.length_singleton]
        have : ∀ (l : List Nat) (k : Nat) (h : k < l.length), (l.set k (l[k] + 1)).sum = l.sum + 1 := by
          intro l
          induction l with
          | nil => intro k h; simp at h
          | cons x l ih =>
            intro k h
            cases k with
            | zero => simp; omega
            | succ k => simp at h ⊢; rw [ih k h]; omega
        have e := this (rows.map List.length) k (by simpa using hlt)
        simp only [List.getElem_map] at e
        rw [e, h3]

theorem union_Union_Classes.c {u q : Nat} {L : List Nat} {H : Hp} {K : Option Addr → Nat → Nat → Hp → Prop} (hu : UF H u q L) (hl : L.length ≤ 1000)
    (hK : ∀ p l c H', Grid iv H H' p l c (cls L) → UF H' u q L → Mod [q] H H' → K p l c H') : union_Union_Classes.C (some ⟨u, 0, none⟩) H K := by
  apply union_Union_Classes.of
  refine union_Union_Places.c hu hl fun pp pc H1 hs hnew u1 m1 => ?_
  have hplen : (plc L).length = L.length := plcS_len L L.length
  have hok := (plc_ok L).1
  have hrl : ∀ t, t ≤ L.length → ∀ k (h : k < (clsS (plc L) t).length), (clsS (plc L) t)[k].length ≤ t := fun t ht k hk => by
    have := (clsS_spec hok t (by omega)).2.2
    have h2 : (clsS (plc L) t)[k].length ∈ (clsS (plc L) t).map List.length := List.mem_map.2 ⟨_, List.getElem_mem hk, rfl⟩
    have h3 : ∀ (l : List Nat) x, x ∈ l → x ≤ l.sum := by
      intro l; induction l with
      | nil => intro x h; cases h
      | cons y l ih => intro x h; rcases List.mem_cons.1 h with rfl | h; · simp
                       · have := ih x h; simp; omega
    have := h3 _ _ h2; omega
  have hcl : ∀ t, t ≤ L.length → (clsS (plc L) t).length ≤ t := fun t => by
    induction t with
    | zero => intro; exact Nat.le_refl _
    | succ t ih => intro h; rw [clsS, clsP_len]; have := ih (by omega); split <;> omega
  refine ⟨fun p l c t H' => ∃ t' : Nat, t = t' ∧ t' ≤ L.length ∧ Le H1 H' ∧ Grid iv H1 H' p l c (clsS (plc L) t'), fun _ _ _ t _ => (L.length - t).toNat, ⟨0, rfl, by omega, Le.refl _, Grid.none⟩, ?_⟩
  rintro p l c t H2 ⟨t, rfl, ht, le2, hR⟩
  have hll := hR.len
  refine bcd (fun h => ?_) (fun h => ?_)
  · have ht' : t < L.length := by omega
    refine sl_nil (hs.le le2) (by omega) (by omega) fun b o hi e => ldI_i e ?_
    simp only [Int.toNat_natCast] at hi
    have hge : (plc L).getD t 0 = (plc L)[t] := by simp [List.getD, hi]
    have hpk := hok t (by omega)
    have hc0 := hcl t ht
    rw [hge] at hpk
    simp only [Int.toNat_natCast]
    have step : ∀ (rows : List (List Nat)) p l c H3, rows.length ≤ t + 1 → Le H1 H3 → Grid iv H1 H3 p l c rows → (hk : (plc L)[t] < rows.length) → rows[(plc L)[t]].length ≤ t → rows.set (plc L)[t] (rows[(plc L)[t]] ++ [t]) = clsS (plc L) (t + 1) →
        ∀ p0 l0 c0, union_Union_Classes.k1 H2 (fun p l c t H' => ∃ t' : Nat, t = t' ∧ t' ≤ L.length ∧ Le H1 H' ∧ Grid iv H1 H' p l c (clsS (plc L) t')) (fun _ _ _ t _ => (L.length - t).toNat) c0 l0 p0 t ((plc L)[t] : Nat) p l c H3 := by
      intro rows p l c H3 hrl le3 hR3 hk hrow heq p0 l0 c0
      refine hR3.app le3 rfl rfl (by decide) rfl rfl hk rfl (by simp [te_int]; omega) fun H4 hR4 le4 => ?_
      rw [heq] at hR4
      exact chk (by omega) ⟨⟨t + 1, by omega, by omega, le4, hR4⟩, by dsimp only; omega⟩
    refine bcd (fun hn => ?_) (fun hn => ?_)
    · refine hR.add le2 rfl rfl (by decide) (by simp [te_sl_int]; omega) rfl fun p' c' H3 hR3 le3 => ?_
      have hk : (plc L)[t] = (clsS (plc L) t).length := by omega
      refine step _ _ _ _ _ (by simp; omega) le3 hR3 (by simp; omega) (by simp [hk]) ?_ _ _ _
      rw [clsS, hge, clsP, if_pos hk]
      simp [hk]
    · have hk : (plc L)[t] < (clsS (plc L) t).length := by omega
      refine step _ _ _ _ _ (by omega) le2 hR hk (hrl t ht _ hk) ?_ _ _ _
      rw [clsS, hge, clsP, if_neg (by omega)]
      simp [hk]
  · obtain rfl : t = L.length := by omega
    refine hK p l c H2 ?_ (u1.le le2) (m1.andLe le2)
    obtain ⟨hs', g1, g2, g3, g4⟩ := hR
    have hb : ∀ b, H1 b = none → H b = none := fun b hb => by
      by_cases e : b = q
      · subst e; exact absurd hb u1.q
      · cases hH : H b with
        | none => rfl
        | some d => rw [m1 b (by simpa using e) _ hH] at hb; cases hb
    exact ⟨hs', g1, g2.base fun b _ => hb b, fun k a b => (g3 k a b).base fun b' _ => hb b', g4⟩
end Go.Proofs.Ytimgnhleaekmhaa
