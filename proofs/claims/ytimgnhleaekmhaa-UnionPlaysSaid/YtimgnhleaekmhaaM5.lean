/- Contracts. -/
import Derived.Test.YtimgnhleaekmhaaM4
namespace Go.Proofs.Ytimgnhleaekmhaa
open Go.V
/-! ### The longest ones of the reference -/
theorem centoref10_Length.c {ap bp : Option Addr} {al ac bl bc' : Nat} {a b : List ByteArray} {H : Hp} {K : Int → Hp → Prop} (ha : Sl Value.string H ap al ac a) (hb : Sl Value.string H bp bl bc' b)
    (hK : ∀ H', Le H H' → K (lcs (a.take 200) (b.take 200) : Nat) H') : centoref10_Length.C ap al ac bp bl bc' H K := by
  apply centoref10_Length.of
  refine centoref10_first.c ha fun ap' al' ac' ha' => centoref10_first.c hb fun bp' bl' bc'' hb' => centoref10_table.c ha' hb' (by simp; omega) (by simp; omega) fun t c H1 hR hle => ?_
  obtain ⟨r, _, h1, h2⟩ := hR 0 (by omega) (by omega)
  exact idx0 (by omega) (nil (ldL0 h1 (idx0 (by omega) (nil (ldI0 (h2 0 (by omega)) (hK _ hle))))))

theorem centoref10_next.c {ap bp tp : Option Addr} {al ac bl bc' tc t i k : Nat} {a b : List ByteArray} {H : Hp} {K : Int → Int → Hp → Prop} (ha : Sl Value.string H ap al ac a) (hb : Sl Value.string H bp bl bc' b) (la : a.length ≤ 200) (lb : b.length ≤ 200)
    (hR : Rws a b H t (-1)) (htp : tp = some ⟨t, 0, none⟩) (hi : i ≤ a.length) (hk : k ≤ b.length) (hV : 0 < V a b i k)
    (hK : ∀ p q : Nat, i ≤ p → k ≤ q → Mt a b (V a b i k) p q → (∀ p' q', i ≤ p' → k ≤ q' → (p' < p ∨ (p' = p ∧ q' < q)) → ¬ Mt a b (V a b i k) p' q') → K p q H) :
    centoref10_next.C ap al ac bp bl bc' tp (a.length + 1) tc i k H K := by
  apply centoref10_next.of
  subst htp
  have hal := ha.len
  have hbl := hb.len
  refine ⟨fun p H' => ∃ p' : Nat, p = p' ∧ i ≤ p' ∧ p' ≤ a.length ∧ H = H' ∧ ∀ p'' q', i ≤ p'' → k ≤ q' → p'' < p' → ¬ Mt a b (V a b i k) p'' q', fun p _ => (al - p).toNat, ⟨i, rfl, by omega, hi, rfl, fun p'' q' h1 h2 h3 => by omega⟩, ?_⟩
  rintro p _ ⟨p, rfl, hip, hp, rfl, hno⟩
  refine bcd (fun h => ?_) (fun h => ?_)
  · refine ⟨fun q H' => ∃ q' : Nat, q = q' ∧ k ≤ q' ∧ q' ≤ b.length ∧ H = H' ∧ ∀ q'', k ≤ q'' → q'' < q' → ¬ Mt a b (V a b i k) p q'', fun q _ => (bl - q).toNat, ⟨k, rfl, by omega, hk, rfl, fun q'' h1 h2 => by omega⟩, ?_⟩
    rintro q _ ⟨q, rfl, hkq, hq, rfl, hno'⟩
    refine bcd (fun h' => ?_) (fun h' => ?_)
    · refine slS ha (g := id) (fun _ => rfl) (by omega) (by omega) fun j1 => slS hb (g := id) (fun _ => rfl) (by omega) (by omega) fun j2 => ?_
      simp only [id, Int.toNat_natCast] at *
      have j1 : p < a.length := j1
      have j2 : q < b.length := j2
      have next : ¬ Mt a b (V a b i k) p q → (∃ q' : Nat, (q : Int) + 1 = q' ∧ k ≤ q' ∧ q' ≤ b.length ∧ True ∧ ∀ q'', k ≤ q'' → q'' < q' → ¬ Mt a b (V a b i k) p q'') := fun hn =>
        ⟨q + 1, by omega, by omega, by omega, trivial, fun q'' h1 h2 => by
          by_cases e : q'' = q
          · exact e ▸ hn
          · exact hno' q'' h1 (by omega)⟩
      refine bcd (fun e => ?_) (fun e => ?_)
      · obtain ⟨r, _, g1, g2⟩ := hR (p + 1) (by omega) (by omega)
        obtain ⟨r', _, g1', g2'⟩ := hR i (by omega) (by omega)
        have v1 := @V_le a b (p + 1) (q + 1)
        refine chk (by omega) (idxN (p + 1) (by omega) (by omega) (nil (ldL0 g1 (chk (by omega) (idxN (q + 1) (by omega) (by omega) (nil (ldI0 (g2 (q + 1) (by omega)) (chk (by omega) (idx (by omega) (nil (ldL0 g1' (idx (by omega) (nil (ldI0 (g2' k (by omega)) (bcd (fun e' => ?_) (fun e' => ?_))))))))))))))))
        · exact hK p q hip hkq ⟨j1, j2, by rw [List.getElem?_eq_getElem j1, List.getElem?_eq_getElem j2, e], by omega⟩ fun p' q' h1 h2 h3 => by
            by_cases e : p' = p
            · subst e; exact hno' q' h2 (by omega)
            · exact hno p' q' h1 h2 (by omega)
        · exact chk (by omega) ⟨next fun hm => e' (by have := hm.2.2.2; omega), by first | omega | (dsimp only; omega)⟩
      · exact chk (by omega) ⟨next fun hm => e (by have := hm.2.2.1; rw [List.getElem?_eq_getElem j1, List.getElem?_eq_getElem j2] at this; exact Option.some.inj this), by first | omega | (dsimp only; omega)⟩
    · refine chk (by omega) ⟨⟨p + 1, by omega, by omega, by omega, rfl, fun p'' q'' h1 h2 h3 => ?_⟩, by first | omega | (dsimp only; omega)⟩
      by_cases e : p'' = p
      · subst e
        by_cases e' : q'' < q
        · exact hno' q'' h2 e'
        · exact fun hm => by have := hm.2.1; omega
      · exact hno p'' q'' h1 h2 (by omega)
  · have e := V_stays (a := a) (b := b) (i := i) (k := k) p hip hp (fun p' q h1 h2 h3 => hno p' q h1 h3 h2)
    rw [V_end (.inl (by omega))] at e
    omega

theorem centoref10_Longest.c {ap bp : Option Addr} {al ac bl bc' : Nat} {a b : List ByteArray} {H : Hp} {K : Option Addr → Nat → Nat → Hp → Prop} (ha : Sl Value.string H ap al ac a) (hb : Sl Value.string H bp bl bc' b)
    (hK : ∀ p l c r H', Gr (a.take 200) (b.take 200) 0 0 r → Sn 2 pairC H' p l c r → Le H H' → K p l c H') : centoref10_Longest.C ap al ac bp bl bc' H K := by
  apply centoref10_Longest.of
  have la : (a.take 200).length ≤ 200 := by simp; omega
  have lb : (b.take 200).length ≤ 200 := by simp; omega
  refine centoref10_first.c ha fun ap al ac ha => centoref10_first.c hb fun bp bl bc' hb => centoref10_table.c ha hb la lb fun t c H1 hT hle => ?_
  generalize a.take 200 = a at *
  generalize b.take 200 = b at *
  have hal := ha.len
  have hbl := hb.len
  refine ⟨fun op ol oc i k H' => ∃ i' k' : Nat, i = i' ∧ k = k' ∧ i' ≤ a.length ∧ k' ≤ b.length ∧ ol ≤ i' ∧ Le H1 H' ∧ ∃ r, Buf 2 H1 H' op ol oc (r.flatMap pairC) ∧ ∀ s, Gr a b i' k' s → Gr a b 0 0 (r ++ s), fun _ _ _ i _ _ => (al - i).toNat,
    ⟨0, 0, rfl, rfl, by omega, by omega, by omega, Le.refl _, [], Buf.none, fun s h => h⟩, ?_⟩
  rintro op ol oc i k H2 ⟨i, k, rfl, rfl, hi, hk, hol, hle2, r, hB, hG⟩
  obtain ⟨q, _, g1, g2⟩ := (hT.le hle2) i (by omega) (by omega)
  refine idx (by omega) (nil (ldL0 g1 (idx (by omega) (nil (ldI0 (g2 k (by omega)) (bcd (fun e => ?_) (fun e => ?_)))))))
  · have hle' := hle.trans hle2
    refine centoref10_next.c (ha.le hle') (hb.le hle') la lb (hT.le hle2) rfl hi hk (by omega) fun p q hp hq hm hl => ?_
    have hm1 := hm.1
    have hm2 := hm.2.1
    refine Buf.app1 hB hle2 rfl (by decide) rfl (by decide) rfl rfl (by simp [te_api_Pair]; omega) fun p' c' H3 hB' hA' _ => ?_
    refine chk (by omega) (chk (by omega) ⟨⟨p + 1, q + 1, by omega, by omega, by omega, by omega, by omega, hA', r ++ [((p : Int), (q : Int))], by simpa [pairC] using hB', fun s hs => ?_⟩, by first | omega | (dsimp only; omega)⟩)
    rw [List.append_assoc]
    exact hG _ (.cons hp hq hm hl hs)
  · refine hK _ _ _ r _ (by simpa using hG [] (.nil (by omega))) (hB.sn (f := pairC) (fun _ => rfl) (by decide)) (hle.trans hle2)

theorem centoref10_Is.c {ap bp lp : Option Addr} {al ac bl bc' ll lc : Nat} {a b : List ByteArray} {l : List (Int × Int)} {H : Hp} {K : Bool → Hp → Prop} (ha : Sl Value.string H ap al ac a) (hb : Sl Value.string H bp bl bc' b)
    (hl : Sn 2 pairC H lp ll lc l) (hll : l.length ≤ 1000000000) (hK : ∀ H', Le H H' → K (isM a b (-1, -1) l) H') : centoref10_Is.C ap al ac bp bl bc' lp ll lc H K := by
  apply centoref10_Is.of
  have hal := ha.len
  have hbl := hb.len
  have hlen := hl.len
  refine ⟨fun i H' => ∃ i' : Nat, i = i' ∧ i' ≤ l.length ∧ Le H H' ∧ -1 ≤ (prv l i').1 ∧ -1 ≤ (prv l i').2 ∧ isM a b (-1, -1) l = isM a b (prv l i') (l.drop i'), fun i _ => (ll - i).toNat,
    ⟨0, rfl, by omega, Le.refl _, by simp [prv], by simp [prv], by simp [prv]⟩, ?_⟩
  rintro i H1 ⟨i, rfl, hi, hle, w0, w1, hM⟩
  refine bcd (fun h => ?_) (fun h => ?_)
  · refine snP (hl.le hle) (by omega) (by omega) fun hi' => newP fun v hv => ?_
    simp only [Int.toNat_natCast] at *
    have hi' : i < l.length := hi'
    have hle' := hle.trans (Le.upd (c := [.int .i64 l[i].1, .int .i64 l[i].2]) hv)
    have hno := isM_no hi' hM
    refine ldI_i rd_upd_self (bcd (fun e => ?_) (fun e1 => ?_))
    · rw [← hno (fun ho => by have := ho.1; omega)]; exact hK _ hle'
    refine ldI_i rd_upd_self (bcd (fun e => ?_) (fun e2 => ?_))
    · rw [← hno (fun ho => by have := ho.2.1; omega)]; exact hK _ hle'
    refine ldI_i rd_upd_self (bcd (fun e => ?_) (fun e3 => ?_))
    · rw [← hno (fun ho => by have := ho.2.2.1; omega)]; exact hK _ hle'
    refine ldI_i rd_upd_self (bcd (fun e => ?_) (fun e4 => ?_))
    · rw [← hno (fun ho => by have := ho.2.2.2.1; omega)]; exact hK _ hle'
    refine ldI_i rd_upd_self (slS (ha.le hle') (g := id) (fun _ => rfl) (by omega) (by omega) fun j1 => ldI_i rd_upd_self (slS (hb.le hle') (g := id) (fun _ => rfl) (by omega) (by omega) fun j2 => bcd (fun e => ?_) (fun e5 => ?_)))
    · rw [← hno (fun ho => e (by have := ho.2.2.2.2; rw [List.getElem?_eq_getElem j1, List.getElem?_eq_getElem j2] at this; exact Option.some.inj this))]; exact hK _ hle'
    have e5 : a[l[i].1.toNat]? = b[l[i].2.toNat]? := by rw [List.getElem?_eq_getElem j1, List.getElem?_eq_getElem j2]; exact congrArg some (Decidable.not_not.1 e5)
    refine bcd (fun e6 => ?_) (fun e6 => ?_)
    · have hpr : prv l i = l[i - 1] := by simp [prv, show ¬ i = 0 by omega, show i - 1 < l.length by omega]
      have hto : ((i : Int) - 1).toNat = i - 1 := by omega
      rw [hpr] at hno hM w0 w1
      refine ldI_i rd_upd_self (chk (by omega) (snA (hl.le hle') (by omega) (by omega) fun j3 => ?_))
      simp only [hto]
      refine bcd (fun e => ?_) (fun e7 => ?_)
      · rw [← hno (fun ho => by have := ho.1; omega)]; exact hK _ hle'
      refine ldI_i rd_upd_self (chk (by omega) (snB (hl.le hle') (by omega) (by omega) fun j4 => ?_))
      simp only [hto]
      refine bcd (fun e => ?_) (fun e8 => ?_)
      · rw [← hno (fun ho => by have := ho.2.1; omega)]; exact hK _ hle'
      rw [← hpr] at hM
      refine chk (by omega) ⟨⟨i + 1, by omega, by omega, hle', by rw [prv_succ hi']; omega, by rw [prv_succ hi']; omega, isM_yes hi' hM ⟨by rw [hpr]; omega, by rw [hpr]; omega, by omega, by omega, e5⟩⟩, by first | omega | (dsimp only; omega)⟩
    · have hpr : prv l i = (-1, -1) := by simp [prv, show i = 0 by omega]
      refine chk (by omega) ⟨⟨i + 1, by omega, by omega, hle', by rw [prv_succ hi']; omega, by rw [prv_succ hi']; omega, isM_yes hi' hM ⟨by rw [hpr]; show -1 < _; omega, by rw [hpr]; show -1 < _; omega, by omega, by omega, e5⟩⟩, by first | omega | (dsimp only; omega)⟩
  · have : i = l.length := by omega
    subst this
    rw [List.drop_length] at hM
    have := hK _ hle
    rwa [hM] at this

theorem centolaw11_same.c {ap bp : Option Addr} {al ac bl bc' : Nat} {a b : List (Int × Int)} {H : Hp} {K : Bool → Hp → Prop} (ha : Sn 2 pairC H ap al ac a) (hb : Sn 2 pairC H bp bl bc' b) (hl : a.length ≤ 1000000000)
    (hK : K (decide (a = b)) H) : centolaw11_same.C ap al ac bp bl bc' H K := by
  apply centolaw11_same.of
  have hal := ha.len
  have hbl := hb.len
  refine bcd (fun h => ?_) (fun h => ?_)
  · rwa [decide_eq_false (fun e => h (by rw [hal, hbl, e]))] at hK
  · refine ⟨fun i H' => ∃ i' : Nat, i = i' ∧ i' ≤ a.length ∧ H = H' ∧ a.take i' = b.take i', fun i _ => (al - i).toNat, ⟨0, rfl, by omega, rfl, by simp⟩, ?_⟩
    rintro i _ ⟨i, rfl, hi, rfl, ht⟩
    refine bcd (fun h' => ?_) (fun h' => ?_)
    · refine snP ha (by omega) (by omega) fun j1 => snP hb (by omega) (by omega) fun j2 => ?_
      simp only [Int.toNat_natCast] at *
      have j1 : i < a.length := j1
      have j2 : i < b.length := j2
      refine bcn (fun e => ?_) (fun e => ?_)
      · rwa [decide_eq_false (fun e' => by subst e'; simp at e)] at hK
      · refine chk (by omega) ⟨⟨i + 1, by omega, by omega, by trivial, ?_⟩, by first | omega | (dsimp only; omega)⟩
        rw [List.take_succ_eq_append_getElem j1, List.take_succ_eq_append_getElem j2, ht]
        simp only [Bool.and_eq_true, decide_eq_true_eq] at e
        rw [Prod.ext e.1 e.2]
    · rw [List.take_of_length_le (by omega), List.take_of_length_le (by omega)] at ht
      rwa [decide_eq_true ht] at hK
end Go.Proofs.Ytimgnhleaekmhaa
