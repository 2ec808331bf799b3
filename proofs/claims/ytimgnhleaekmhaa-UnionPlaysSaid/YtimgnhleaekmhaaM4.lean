/- Contracts. -/
import Derived.Test.YtimgnhleaekmhaaM3
namespace Go.Proofs.Ytimgnhleaekmhaa
open Go.V
/-! ### The functions of the reference -/
section
variable {a b : List ByteArray}
theorem V_right1 (i k : Nat) : V a b i k ≤ V a b i (k + 1) + 1 := by
  unfold V
  by_cases h : k < b.length
  · rw [List.drop_eq_getElem_cons h]; exact (lcs_up _).1 _ _
  · rw [lcs_end (.inr (by omega))]; omega
theorem V_down1 (i k : Nat) : V a b i k ≤ V a b (i + 1) k + 1 := by
  unfold V
  by_cases h : i < a.length
  · rw [List.drop_eq_getElem_cons h, lcs_comm, lcs_comm (a.drop (i + 1))]; exact (lcs_up _).1 _ _
  · rw [lcs_end (.inl (by omega))]; omega
theorem V_le (i k : Nat) : V a b i k ≤ a.length := by
  have := lcs_le_left (a.drop i) (b.drop k)
  simp only [List.length_drop] at this
  unfold V; omega
theorem V_end {i k : Nat} (h : a.length ≤ i ∨ b.length ≤ k) : V a b i k = 0 := lcs_end h
theorem V_at {i k : Nat} (hi : i < a.length) (hk : k < b.length) : V a b i k = if a[i] = b[k] then V a b (i + 1) (k + 1) + 1 else max (V a b (i + 1) k) (V a b i (k + 1)) := lcs_at hi hk
theorem V_max {i k : Nat} (hi : i < a.length) (hk : k < b.length) (e : a[i] = b[k]) : V a b i k = max (max (V a b (i + 1) k) (V a b i (k + 1))) (V a b (i + 1) (k + 1) + 1) := by
  have h := V_at hi hk
  rw [if_pos e] at h
  have := @V_right1 a b (i + 1) k
  have := @V_down1 a b i (k + 1)
  omega
end

/-- The rows behind row i of the table. -/
def Rws (a b : List ByteArray) (H : Hp) (t : Nat) (i : Int) : Prop :=
  ∀ i' : Nat, i < i' → i' ≤ a.length → ∃ r, r ≠ t ∧ rd H t i' = some (.slice (some ⟨r, 0, none⟩) (b.length + 1) (b.length + 1)) ∧ ∀ k, k ≤ b.length → rd H r k = some (.int .i64 (V a b i' k : Nat))
theorem Rws.le {a b : List ByteArray} {H H' : Hp} {t : Nat} {i : Int} (h : Rws a b H t i) (hle : Le H H') : Rws a b H' t i := fun i' h1 h2 =>
  let ⟨r, h3, h4, h5⟩ := h i' h1 h2
  ⟨r, h3, hle.rd h4, fun k hk => hle.rd (h5 k hk)⟩

theorem centoref10_table.c {ap bp : Option Addr} {al ac bl bc' : Nat} {a b : List ByteArray} {H : Hp} {K : Option Addr → Nat → Nat → Hp → Prop} (ha : Sl Value.string H ap al ac a) (hb : Sl Value.string H bp bl bc' b) (la : a.length ≤ 200) (lb : b.length ≤ 200)
    (hK : ∀ t c H', Rws a b H' t (-1) → Le H H' → K (some ⟨t, 0, none⟩) (a.length + 1) c H') : centoref10_table.C ap al ac bp bl bc' H K := by
  apply centoref10_table.of
  have hal := ha.len
  have hbl := hb.len
  subst hal hbl
  refine chk (by omega) (mk (n := a.length + 1) (by omega) (by omega) (by omega) fun t ht => chk (by omega) (mk (n := b.length + 1) (by omega) (by omega) (by omega) fun z hz => idx (by omega) (st (x := .slice none 0 0) ?_ (chk (by omega) ?_))))
  · have hzt : t ≠ z := fun e => by rw [e] at hz; simp [upd] at hz
    rw [rd_upd_ne hzt, Nat.zero_add]; exact rd_rep (by omega)
  have hzt : t ≠ z := fun e => by rw [e] at hz; simp [upd] at hz
  have hz0 : H z = none := by rw [upd_ne (Ne.symm hzt)] at hz; exact hz
  refine ⟨fun i H' => -1 ≤ i ∧ i < a.length ∧ Le H H' ∧ (∀ i' : Nat, i' ≤ a.length → ∃ x, rd H' t i' = some x) ∧ Rws a b H' t i, fun i _ => (i + 1).toNat, ⟨by omega, by omega, ?_, ?_, ?_⟩, ?_⟩
  · exact ((Le.upd ht).trans (Le.upd hz)).wr ht
  · intro i' hi'
    by_cases e : i' = a.length
    · subst e; rw [Nat.zero_add]; exact ⟨_, rd_wr_self (x := .slice none 0 0) (by rw [rd_upd_ne hzt]; exact rd_rep (by omega))⟩
    · rw [rd_wr_off (by omega), rd_upd_ne hzt]; exact ⟨_, rd_rep (by omega)⟩
  · intro i' h1 h2
    obtain rfl : i' = a.length := by omega
    refine ⟨z, Ne.symm hzt, ?_, fun k hk => ?_⟩
    · rw [Nat.zero_add]; exact rd_wr_self (x := .slice none 0 0) (by rw [rd_upd_ne hzt]; exact rd_rep (by omega))
    · rw [rd_wr_ne (Ne.symm hzt), rd_rep (by omega), V_end (.inl (by omega))]; rfl
  · rintro i H1 ⟨h0, h1, hle, hS, hR⟩
    refine bcd (fun hi => ?_) (fun hi => ?_)
    · obtain ⟨i, rfl⟩ : ∃ n : Nat, i = n := ⟨i.toNat, by omega⟩
      refine chk (by omega) (mk (n := b.length + 1) (by omega) (by omega) (by omega) fun r hr => ?_)
      obtain ⟨x, hx⟩ := hS i (by omega)
      have hrt := ne_of_rd hx hr
      have hHt : H t = none := ht
      have hHr : H r = none := by
        cases e : H r with
        | none => rfl
        | some y => rw [hle _ _ e] at hr; cases hr
      refine idx (by omega) (st (x := x) (by rw [rd_upd_ne hrt, Nat.zero_add]; exact hx) (chk (by omega) ?_))
      rw [Nat.zero_add]
      generalize hH3 : wr (upd H1 r _) t i _ = H3
      have e1 : rd H3 t i = some (.slice (some ⟨r, 0, none⟩) (b.length + 1) (b.length + 1)) := by rw [← hH3]; exact rd_wr_self (by rw [rd_upd_ne hrt]; exact hx)
      have e2 : ∀ k, k ≤ b.length → rd H3 r k = some (.int .i64 0) := fun k hk => by rw [← hH3, rd_wr_ne (Ne.symm hrt)]; exact rd_rep (by omega)
      have e3 : Le H H3 := by rw [← hH3]; exact (hle.trans (Le.upd hr)).wr ht
      have e4 : Rws a b H3 t i := fun i' h1 h2 => by
        obtain ⟨q, g1, g2, g3⟩ := hR i' h1 h2
        have hqr := ne_of_rd (g3 0 (by omega)) hr
        refine ⟨q, g1, ?_, fun k hk => ?_⟩
        · rw [← hH3, rd_wr_off (by omega), rd_upd_ne hrt]; exact g2
        · rw [← hH3, rd_wr_ne g1, rd_upd_ne hqr]; exact g3 k hk
      have e5 : ∀ i' : Nat, i' ≤ a.length → ∃ x, rd H3 t i' = some x := fun i' hi' => by
        by_cases e : i' = i
        · subst e; exact ⟨_, e1⟩
        · obtain ⟨x, hx⟩ := hS i' hi'
          exact ⟨x, by rw [← hH3, rd_wr_off e, rd_upd_ne hrt]; exact hx⟩
      have e6 : ∀ q, (∃ o x, rd H1 q o = some x) → q ≠ r := fun q ⟨o, x, h⟩ => ne_of_rd h hr
      have e7 : ∃ q, q ≠ t ∧ q ≠ r ∧ rd H3 t (i + 1) = some (.slice (some ⟨q, 0, none⟩) (b.length + 1) (b.length + 1)) ∧ ∀ k, k ≤ b.length → rd H3 q k = some (.int .i64 (V a b (i + 1) k : Nat)) := by
        obtain ⟨q, g1, g2, g3⟩ := e4 (i + 1) (by omega) (by omega)
        obtain ⟨q', g1', g2', g3'⟩ := hR (i + 1) (by omega) (by omega)
        have := g2'
        have e : q' = q := by
          rw [← hH3, rd_wr_off (by omega), rd_upd_ne hrt, g2'] at g2
          simpa using g2
        exact ⟨q, g1, e ▸ ne_of_rd (g3' 0 (by omega)) hr, g2, g3⟩
      have e8 : Rws a b H3 t i → ∀ H', (∀ q, q ≠ r → H' q = H3 q) → (∀ k, k ≤ b.length → rd H' r k = some (.int .i64 (V a b i k : Nat))) → Rws a b H' t ((i : Int) - 1) := by
        intro _ H' p1 p2 i' p3 p4
        by_cases e : i' = i
        · subst e; exact ⟨r, Ne.symm hrt, by rw [rd_eq (p1 t hrt)]; exact e1, p2⟩
        · obtain ⟨q, g1, g2, g3⟩ := e4 i' (by omega) p4
          obtain ⟨q', g1', g2', g3'⟩ := hR i' (by omega) p4
          have e : q' = q := by
            rw [← hH3, rd_wr_off (by omega), rd_upd_ne hrt, g2'] at g2
            simpa using g2
          have hqr : q ≠ r := e ▸ ne_of_rd (g3' 0 (by omega)) hr
          exact ⟨q, g1, by rw [rd_eq (p1 t hrt)]; exact g2, fun k hk => by rw [rd_eq (p1 q hqr)]; exact g3 k hk⟩
      have e9 : ∀ H', (∀ q, q ≠ r → H' q = H3 q) → Le H H' := fun H' h b' c hc => by
        have : b' ≠ r := fun e => by rw [e, hHr] at hc; cases hc
        rw [h b' this]; exact e3 _ _ hc
      clear hH3 hR hS hx hle
      obtain ⟨q, hqt, hqr, e7, e7'⟩ := e7
      refine ⟨fun k H' => -1 ≤ k ∧ k < b.length ∧ (∀ q, q ≠ r → H' q = H3 q) ∧ ∀ k' : Nat, k' ≤ b.length → rd H' r k' = some (.int .i64 ((if k < k' then V a b i k' else 0 : Nat) : Int)), fun k _ => (k + 1).toNat, ⟨by omega, by omega, fun _ _ => rfl, fun k' hk' => ?_⟩, ?_⟩
      · rw [e2 k' hk']
        split
        · rw [V_end (.inr (by omega))]; rfl
        · rfl
      · rintro k H4 ⟨g0, g1, gF, gR⟩
        have gle := e9 H4 gF
        refine bcd (fun hk => ?_) (fun hk => ?_)
        · obtain ⟨k, rfl⟩ : ∃ n : Nat, k = n := ⟨k.toNat, by omega⟩
          have rt : ∀ o, rd H4 t o = rd H3 t o := fun o => rd_eq (gF t hrt)
          have rq : ∀ o, rd H4 q o = rd H3 q o := fun o => rd_eq (gF q hqr)
          have r0 := gR k (by omega)
          have r1 := gR (k + 1) (by omega)
          rw [if_pos (by omega)] at r1
          have v1 := @V_le a b (i + 1) k
          have v2 := @V_le a b i (k + 1)
          have v3 := @V_le a b (i + 1) (k + 1)
          have put : ∀ H', (∀ q, q ≠ r → H' q = H4 q) → (∀ o, o ≠ k → rd H' r o = rd H4 r o) → rd H' r k = some (.int .i64 (V a b i k : Nat)) →
              -1 ≤ (k : Int) - 1 ∧ (k : Int) - 1 < b.length ∧ (∀ q, q ≠ r → H' q = H3 q) ∧ ∀ k' : Nat, k' ≤ b.length → rd H' r k' = some (.int .i64 ((if (k : Int) - 1 < k' then V a b i k' else 0 : Nat) : Int)) := by
            intro H' p1 p2 p3
            refine ⟨by omega, by omega, fun q hq => by rw [p1 q hq, gF q hq], fun k' hk' => ?_⟩
            by_cases e : k' = k
            · subst e; rw [p3, if_pos (by omega)]
            · rw [p2 k' e, gR k' hk']
              have : ((k : Int) < k') ↔ ((k : Int) - 1 < k') := by omega
              simp only [this]
          have s0 := e7' k (by omega)
          have s1 := e7' (k + 1) (by omega)
          rw [← rq] at s0 s1
          have q1 := e1
          have q2 := e7
          rw [← rt] at q1 q2
          have v1 := @V_le a b (i + 1) k
          have v2 := @V_le a b i (k + 1)
          have v3 := @V_le a b (i + 1) (k + 1)
          have put : ∀ H', (∀ q, q ≠ r → H' q = H4 q) → (∀ o, o ≠ k → rd H' r o = rd H4 r o) → rd H' r k = some (.int .i64 (V a b i k : Nat)) →
              -1 ≤ (k : Int) - 1 ∧ (k : Int) - 1 < b.length ∧ (∀ q, q ≠ r → H' q = H3 q) ∧ ∀ k' : Nat, k' ≤ b.length → rd H' r k' = some (.int .i64 ((if (k : Int) - 1 < k' then V a b i k' else 0 : Nat) : Int)) := by
            intro H' p1 p2 p3
            refine ⟨by omega, by omega, fun q hq => by rw [p1 q hq, gF q hq], fun k' hk' => ?_⟩
            by_cases e : k' = k
            · subst e; rw [p3, if_pos (by omega)]
            · rw [p2 k' e, gR k' hk']
              have : ((k : Int) < k') ↔ ((k : Int) - 1 < k') := by omega
              simp only [this]
          refine idx (by omega) (ldL0 q1 (chk (by omega) (idxN (i + 1) (by omega) (by omega) (ldL0 q2 (idx (by omega) (nil (ldI0 s0 ?_)))))))
          refine idx (by omega) (ldL0 q1 (chk (by omega) (idxN (k + 1) (by omega) (by omega) (nil (ldI0 r1 (idx (by omega) (nil (st0 r0 ?_))))))))
          generalize hH5 : wr H4 r k _ = H5
          have f1 : ∀ q, q ≠ r → H5 q = H4 q := fun q hq => by rw [← hH5, wr_ne hq]
          have f2 : ∀ o, o ≠ k → rd H5 r o = rd H4 r o := fun o ho => by rw [← hH5, rd_wr_off ho]
          have f3 : rd H5 r k = some (.int .i64 (max (V a b (i + 1) k : Int) (V a b i (k + 1) : Nat))) := by rw [← hH5]; exact rd_wr_self r0
          have gle5 := e9 H5 (fun q hq => by rw [f1 q hq, gF q hq])
          clear hH5
          rw [← rd_eq (f1 t hrt)] at q1 q2
          rw [← rd_eq (f1 q hqr)] at s1
          refine slS (ha.le gle5) (g := id) (fun _ => rfl) (by omega) (by omega) fun hi' => slS (hb.le gle5) (g := id) (fun _ => rfl) (by omega) (by omega) fun hk' => ?_
          simp only [id, Int.toNat_natCast] at *
          have hi' : i < a.length := hi'
          have hk' : k < b.length := hk'
          have hat := V_at hi' hk'
          refine bcd (fun e => ?_) (fun e => ?_)
          · have hmx := V_max hi' hk' e
            refine idx (by omega) (ldL0 q1 (idx (by omega) (ldL0 q1 (idx (by omega) (nil (ldI0 f3 ?_))))))
            refine chk (by omega) (idxN (i + 1) (by omega) (by omega) (ldL0 q2 (chk (by omega) (idxN (k + 1) (by omega) (by omega) (nil (ldI0 s1 ?_))))))
            refine chk (by omega) (idx (by omega) (nil (st0 f3 (chk (by omega) ⟨put _ (fun q hq => by rw [wr_ne hq, f1 q hq]) (fun o ho => by rw [rd_wr_off ho, f2 o ho]) ?_, by first | omega | (dsimp only; omega)⟩))))
            rw [rd_wr_self f3, hmx]; simp; omega
          · rw [if_neg e] at hat
            exact chk (by omega) ⟨put _ f1 f2 (by rw [f3, hat]; simp; omega), by first | omega | (dsimp only; omega)⟩
        · refine chk (by omega) ⟨⟨by omega, by omega, gle, fun i' hi' => by rw [rd_eq (gF t hrt)]; exact e5 i' hi', e8 e4 H4 gF (fun k' hk' => by rw [gR k' hk', if_pos (by omega)])⟩, by first | omega | (dsimp only; omega)⟩
    · exact hK _ _ _ (by rwa [show i = -1 by omega] at hR) hle
end Go.Proofs.Ytimgnhleaekmhaa
