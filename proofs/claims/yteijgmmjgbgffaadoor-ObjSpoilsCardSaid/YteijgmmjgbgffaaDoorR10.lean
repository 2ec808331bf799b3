/- Contracts. -/
import Derived.Test.YteijgmmjgbgffaaDoorR9
namespace Go.Proofs.YteijgmmjgbgffaaDoor
open Go.V
theorem centoref2_Rel_Same.c {m m' n n' : Nat} {M N : Nat → Nat → Bool} {O O' : List Nat} {H : Hp} {K : Bool → Hp → Prop} (hu : RFO H m O n M) (hv : RFO H m' O' n' N) (hK : K (decide (n = n') && sameM M N n) H) : centoref2_Rel_Same.C (some ⟨m, 0, none⟩) (some ⟨m', 0, none⟩) H K := by
  apply centoref2_Rel_Same.of
  have hlim := hu.lim
  refine hu.len (hv.len ?_)
  refine bcd (fun h => by rwa [decide_eq_false (show ¬ n = n' by omega), Bool.false_and] at hK) (fun h => ?_)
  obtain rfl : n = n' := by omega
  rw [decide_eq_true rfl, Bool.true_and] at hK
  have no : ∀ {a b}, a < n → b < n → ¬ M a b = N a b → K false H := fun ha hb h => by
    have : sameM M N n = false := by
      cases e : sameM M N n with
      | false => rfl
      | true => exact absurd (sameM_iff.1 e _ _ ha hb) h
    rwa [this] at hK
  refine ⟨fun t Hx => ∃ a : Nat, t = a ∧ a ≤ n ∧ H = Hx ∧ ∀ x y, x < a → y < n → M x y = N x y, fun t _ => (n - t).toNat, ⟨0, rfl, by omega, rfl, fun x y h => by omega⟩, ?_⟩
  rintro t _ ⟨a, rfl, ha, rfl, hs⟩
  refine hu.len ?_
  refine bcd (fun h => ?_) (fun h => ?_)
  · have han : a < n := by omega
    refine ⟨fun t Hx => ∃ b : Nat, t = b ∧ b ≤ n ∧ H = Hx ∧ ∀ y, y < b → M a y = N a y, fun t _ => (n - t).toNat, ⟨0, rfl, by omega, rfl, fun y h => by omega⟩, ?_⟩
    rintro t _ ⟨b, rfl, hb, rfl, hs'⟩
    refine hu.len ?_
    refine bcd (fun h => ?_) (fun h => ?_)
    · have hbn : b < n := by omega
      refine hu.get rfl han rfl hbn ?_
      refine hv.get rfl han rfl hbn ?_
      refine bcd (fun h => no han hbn h) (fun h => ?_)
      rw [Decidable.not_not] at h
      exact chk (by omega) ⟨⟨b + 1, by omega, by omega, rfl, fun y hy => by
        by_cases e : y = b
        · subst e; exact h
        · exact hs' y (by omega)⟩, by first | omega | (dsimp only; omega)⟩
    · exact chk (by omega) ⟨⟨a + 1, by omega, by omega, rfl, fun x y hx hy => by
        by_cases e : x = a
        · subst e; exact hs' y (by omega)
        · exact hs x y (by omega) hy⟩, by first | omega | (dsimp only; omega)⟩
  · have : sameM M N n = true := sameM_iff.2 fun x y hx hy => hs x y (by omega) hy
    rwa [this] at hK

theorem centoref2_Rel_Pairs.c {m n : Nat} {M : Nat → Nat → Bool} {O : List Nat} {H : Hp} {K : Option Addr → Nat → Nat → Hp → Prop} (hu : RFO H m O n M)
    (hK : ∀ p l c H', Sn 2 pairC H' p l c (prs M n) → New H p → Le H H' → K p l c H') : centoref2_Rel_Pairs.C (some ⟨m, 0, none⟩) H K := by
  apply centoref2_Rel_Pairs.of
  have hlim := hu.lim
  have hsup := hu.sup
  refine ⟨fun p l c t H' => ∃ a : Nat, t = a ∧ a ≤ n ∧ l ≤ a * 200 ∧ Le H H' ∧ Buf 2 H H' p l c ((prsTo M n a 0).flatMap pairC), fun _ _ _ t _ => (n - t).toNat, ⟨0, rfl, by omega, by omega, Le.refl _, by simpa [prsTo, els] using Buf.none⟩, ?_⟩
  rintro p l c t H1 ⟨a, rfl, ha, hl, le1, hB⟩
  refine (hu.le le1).len ?_
  refine bcd (fun h => ?_) (fun h => ?_)
  · have han : a < n := by omega
    have hbd : a * 200 ≤ 40000 := by have := Nat.mul_le_mul_right 200 (show a ≤ 200 by omega); omega
    refine ⟨fun p l c t H' => ∃ b : Nat, t = b ∧ b ≤ n ∧ l ≤ a * 200 + b ∧ Le H H' ∧ Buf 2 H H' p l c ((prsTo M n a b).flatMap pairC), fun _ _ _ t _ => (n - t).toNat, ⟨0, rfl, by omega, by omega, le1, hB⟩, ?_⟩
    rintro p l c t H2 ⟨b, rfl, hb, hl2, le2, hB2⟩
    refine (hu.le le2).len ?_
    refine bcd (fun h => ?_) (fun h => ?_)
    · have hbn : b < n := by omega
      refine (hu.le le2).get rfl han rfl hbn ?_
      refine bc_i (fun hM => ?_) (fun hM => ?_)
      · refine Buf.app1 hB2 le2 (new := [.int .i64 (a : Int), .int .i64 (b : Int)]) rfl (by decide) rfl (by decide) rfl rfl (by simp [te_api_Pair]; omega) fun p' c' H3 hB3 hA3 _ => ?_
        refine chk (by omega) ⟨⟨b + 1, by omega, by omega, by omega, hA3, ?_⟩, by first | omega | (dsimp only; omega)⟩
        rw [prsTo_on hM, List.flatMap_append]
        exact hB3
      · exact chk (by omega) ⟨⟨b + 1, by omega, by omega, by omega, le2, by rw [prsTo_off hM]; exact hB2⟩, by first | omega | (dsimp only; omega)⟩
    · refine chk (by omega) ⟨⟨a + 1, by omega, by omega, by rw [Nat.add_mul]; omega, le2, ?_⟩, by first | omega | (dsimp only; omega)⟩
      rw [prsTo_row hsup (i := b) (by omega)]; exact hB2
  · obtain rfl : a = n := by omega
    have e : prsTo M a a 0 = prs M a := by simp [prsTo, prs, els]
    rw [e] at hB
    exact hK p l c H1 (hB.sn (f := pairC) (fun _ => rfl) (by decide)) hB.fr le1

theorem addSet {M : Nat → Nat → Bool} {n a b : Nat} (ha : a < n) (hb : b < n) : (fun x y => if x = a ∧ y = b then true else M x y) = addM M n a b := by
  funext x y
  unfold addM
  by_cases e : x = a ∧ y = b
  · rw [if_pos e, decide_eq_true (by omega)]; simp
  · rw [if_neg e, decide_eq_false (by omega), Bool.or_false]

theorem centoref2_Of.c {n : Int} {lp : Option Addr} {ll lc : Nat} {l : List (Int × Int)} {H : Hp} {K : Option Addr → Int → Hp → Prop} (hl : Sn 2 pairC H lp ll lc l) (hll : l.length ≤ 1000000000)
    (h1 : (n < 0 ∨ 200 < n) → K none 11 H) (h2 : ∀ H', 0 ≤ n → n ≤ 200 → okP l n.toNat = false → Le H H' → K none 10 H')
    (h3 : ∀ R O H', 0 ≤ n → n ≤ 200 → okP l n.toNat = true → RFO H' R O n.toNat (ofM l n.toNat) → (∀ b ∈ O, H b = none) → Le H H' → K (some ⟨R, 0, none⟩) 0 H') : centoref2_Of.C n lp ll lc H K := by
  apply centoref2_Of.of
  have hlen := hl.len
  refine bcd (fun h => h1 (.inl h)) (fun g1 => bcd (fun h => h1 (.inr h)) (fun g2 => ?_))
  obtain ⟨n, rfl⟩ : ∃ k : Nat, n = k := ⟨n.toNat, by omega⟩
  rw [Int.toNat_natCast] at h2 h3
  have h2 := fun H' => h2 H' (by omega) (by omega)
  have h3 := fun R O H' => h3 R O H' (by omega) (by omega)
  refine centoref2_New.c fun R O H1 u1 hO le1 => ?_
  rw [show (max 0 (min (n : Int) 200)).toNat = n by omega] at u1
  refine ⟨fun t H' => ∃ i : Nat, t = i ∧ i ≤ ll ∧ Le H H' ∧ RFO H' R O n (ofM (l.take i) n) ∧ okP (l.take i) n = true, fun t _ => (ll - t).toNat, ⟨0, rfl, by omega, le1, u1.congr fun x y => by simp [ofM], by simp [okP]⟩, ?_⟩
  rintro t H2 ⟨i, rfl, hi, le2, u2, ok2⟩
  refine bcd (fun h => ?_) (fun h => ?_)
  · have hil : i < l.length := by omega
    have hts := List.take_succ_eq_append_getElem hil
    have bad : okP (l.take (i + 1)) n = false → K none 10 H2 := fun h => h2 H2 (okP_take h) le2
    have okn := okP_snoc (l := l.take i) (n := n) (p := l[i])
    rw [← hts, ok2, Bool.true_and] at okn
    refine snA (hl.le le2) (by omega) (by omega) fun _ => ?_
    simp only [Int.toNat_natCast]
    refine centoref2_Rel_Is.c u2 ?_
    refine bcn (fun h => bad (by rw [okn]; have := of_decide_eq_false h; exact decide_eq_false fun g => this ⟨g.1, g.2.1⟩)) (fun ha => ?_)
    refine snB (hl.le le2) (by omega) (by omega) fun _ => ?_
    simp only [Int.toNat_natCast]
    refine centoref2_Rel_Is.c u2 ?_
    refine bcn (fun h => bad (by rw [okn]; have := of_decide_eq_false h; exact decide_eq_false fun g => this g.2.2)) (fun hb' => ?_)
    have ha := of_decide_eq_true ha
    have hb' := of_decide_eq_true hb'
    have hadd := ofM_snoc (l := l.take i) (n := n) (p := l[i])
    rw [← hts] at hadd
    obtain ⟨x, hx⟩ : ∃ k : Nat, l[i].1 = k := ⟨l[i].1.toNat, by omega⟩
    obtain ⟨y, hy⟩ : ∃ k : Nat, l[i].2 = k := ⟨l[i].2.toNat, by omega⟩
    have hxn : x < n := by omega
    have hyn : y < n := by omega
    obtain ⟨B, bs, hOe, u2⟩ := u2
    obtain ⟨p, c, g1, _, g3⟩ := u2.hm
    obtain rfl := g3.resolve_left (by omega)
    unfold centoref2_Of.k2
    refine nil ?_
    refine ldL_i (by rw [Nat.zero_add]; exact g1) ?_
    refine snA (hl.le le2) (by omega) (by omega) fun _ => ?_
    simp only [Int.toNat_natCast]
    refine idxN x hx hxn ?_
    refine nil ?_
    refine ldL_i (by rw [Nat.zero_add]; exact u2.ptr x (by rw [u2.lb]; exact hxn)) ?_
    refine snB (hl.le le2) (by omega) (by omega) fun _ => ?_
    simp only [Int.toNat_natCast]
    refine idxN y hy hyn ?_
    refine nil ?_
    refine st0 (u2.row x (by rw [u2.lb]; exact hxn) y hyn) ?_
    have hset := u2.set hxn hyn (v := true)
    rw [addSet hxn hyn, ← hx, ← hy, ← hadd] at hset
    have mw : Mod (R :: B :: bs) H2 (wr H2 (bs[x]'(by rw [u2.lb]; exact hxn)) y (.bool true)) := Mod.refl.wr (.inl (by simp))
    exact chk (by omega) ⟨⟨i + 1, by omega, by omega, mw.le le2 (by rw [← hOe]; exact hO), ⟨B, bs, hOe, hset⟩, by rw [okn]; exact decide_eq_true ⟨by omega, by omega, by omega, by omega⟩⟩, by first | omega | (dsimp only; omega)⟩
  · have e1 : l.take i = l := List.take_of_length_le (by omega)
    rw [e1] at u2 ok2
    exact h3 R O H2 ok2 u2 hO le2
end Go.Proofs.YteijgmmjgbgffaaDoor
