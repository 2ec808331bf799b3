/- Contracts. -/
import Derived.Test.YteijgmmjgbgffaaDoorR3
namespace Go.Proofs.YteijgmmjgbgffaaDoor
open Go.V
/-! ### Of pairs; joined -/
def okP (l : List (Int × Int)) (n : Nat) : Bool := l.all fun p => decide (0 ≤ p.1 ∧ p.1 < (n : Int) ∧ 0 ≤ p.2 ∧ p.2 < (n : Int))
def ofM (l : List (Int × Int)) (n : Nat) : Nat → Nat → Bool := fun x y => decide (x < n ∧ y < n) && l.any fun p => decide (p.1 = (x : Int) ∧ p.2 = (y : Int))
theorem ofM_snoc {l : List (Int × Int)} {n : Nat} {p : Int × Int} : ofM (l ++ [p]) n = addM (ofM l n) n p.1 p.2 := by
  funext x y
  unfold ofM addM
  rw [List.any_append]
  rw [Bool.eq_iff_iff]
  simp
  constructor
  · rintro ⟨h1, h2 | h2⟩
    · exact .inl ⟨h1, h2⟩
    · exact .inr ⟨h2.1.symm, h2.2.symm, h1.1, h1.2⟩
  · rintro (⟨h1, h2⟩ | ⟨h2, h3, h4, h5⟩)
    · exact ⟨h1, .inl h2⟩
    · exact ⟨⟨h4, h5⟩, .inr ⟨h2.symm, h3.symm⟩⟩
theorem ofM_sup (l : List (Int × Int)) (n : Nat) : Sup (ofM l n) n := fun x y h => by
  unfold ofM
  have : ¬ (x < n ∧ y < n) := by omega
  rw [decide_eq_false this, Bool.false_and]
theorem okP_snoc {l : List (Int × Int)} {n : Nat} {p : Int × Int} : okP (l ++ [p]) n = (okP l n && decide (0 ≤ p.1 ∧ p.1 < (n : Int) ∧ 0 ≤ p.2 ∧ p.2 < (n : Int))) := by unfold okP; rw [List.all_append]; simp
theorem okP_take {l : List (Int × Int)} {n i : Nat} (h : okP (l.take i) n = false) : okP l n = false := by
  unfold okP at *
  rw [List.all_eq_false] at *
  obtain ⟨x, hx, h⟩ := h
  exact ⟨x, List.mem_of_mem_take hx, h⟩

theorem rel_Of.c {n : Int} {lp : Option Addr} {ll lc : Nat} {l : List (Int × Int)} {H : Hp} {K : Option Addr → Int → Hp → Prop} (hl : Sn 2 pairC H lp ll lc l) (hll : l.length ≤ 1000000000) (hT : Tz H)
    (h1 : (n < 0 ∨ 200 < n) → K none 11 H) (h2 : ∀ H', 0 ≤ n → n ≤ 200 → okP l n.toNat = false → Le H H' → K none 10 H')
    (h3 : ∀ R O H', 0 ≤ n → n ≤ 200 → okP l n.toNat = true → RLO H' R O n.toNat (ofM l n.toNat) → (∀ b ∈ O, H b = none) → Le H H' → K (some ⟨R, 0, none⟩) 0 H') : rel_Of.C n lp ll lc H K := by
  apply rel_Of.of
  have hlen := hl.len
  refine bcd (fun h => h1 (.inl h)) (fun g1 => bcd (fun h => h1 (.inr h)) (fun g2 => ?_))
  obtain ⟨n, rfl⟩ : ∃ k : Nat, n = k := ⟨n.toNat, by omega⟩
  rw [Int.toNat_natCast] at h2 h3
  have h2 := fun H' => h2 H' (by omega) (by omega)
  have h3 := fun R O H' => h3 R O H' (by omega) (by omega)
  refine rel_New.c hT fun R O H1 u1 hO le1 => ?_
  rw [show (min (max (n : Int) 0) 200).toNat = n by omega] at u1
  refine ⟨fun t H' => ∃ i : Nat, t = i ∧ i ≤ ll ∧ Le H H' ∧ RLO H' R O n (ofM (l.take i) n) ∧ okP (l.take i) n = true, fun t _ => (ll - t).toNat, ⟨0, rfl, by omega, le1, u1.congr fun x y => by simp [ofM], by simp [okP]⟩, ?_⟩
  rintro t H2 ⟨i, rfl, hi, le2, u2, ok2⟩
  refine bcd (fun h => ?_) (fun h => ?_)
  · have hil : i < l.length := by omega
    have hts := List.take_succ_eq_append_getElem hil
    refine snP (hl.le le2) (by omega) (by omega) fun hi' => newP fun b hb => ?_
    simp only [Int.toNat_natCast]
    have leb : Le H2 (upd H2 b [.int .i64 l[i].1, .int .i64 l[i].2]) := .upd hb
    have r0 : rd (upd H2 b [.int .i64 l[i].1, .int .i64 l[i].2]) b 0 = some (.int .i64 l[i].1) := rd_upd_self
    have r1 : rd (upd H2 b [.int .i64 l[i].1, .int .i64 l[i].2]) b 1 = some (.int .i64 l[i].2) := rd_upd_self
    have hbO : b ∉ O := fun h => u2.there _ h hb
    have u3 := u2.le leb
    have le3 := le2.trans leb
    generalize upd H2 b [.int .i64 l[i].1, .int .i64 l[i].2] = H3 at *
    have bad : okP (l.take (i + 1)) n = false → K none 10 H3 := fun h => h2 H3 (okP_take h) le3
    have okn := okP_snoc (l := l.take i) (n := n) (p := l[i])
    rw [← hts, ok2, Bool.true_and] at okn
    refine ldI_i r0 ?_
    refine rel_Rel_there.c u3 ?_
    refine bcn (fun h => bad (by rw [okn]; have := of_decide_eq_false h; exact decide_eq_false fun g => this ⟨g.1, g.2.1⟩)) (fun ha => ?_)
    refine ldI_i r1 ?_
    refine rel_Rel_there.c u3 ?_
    refine bcn (fun h => bad (by rw [okn]; have := of_decide_eq_false h; exact decide_eq_false fun g => this g.2.2)) (fun hb' => ?_)
    have ha := of_decide_eq_true ha
    have hb' := of_decide_eq_true hb'
    have hadd := ofM_snoc (l := l.take i) (n := n) (p := l[i])
    rw [← hts] at hadd
    generalize l[i] = p at *
    obtain ⟨x, y⟩ := p
    simp only at *
    obtain ⟨x, rfl⟩ : ∃ k : Nat, x = k := ⟨x.toNat, by omega⟩
    obtain ⟨y, rfl⟩ : ∃ k : Nat, y = k := ⟨y.toNat, by omega⟩
    have hx : x < n := by omega
    have ⟨B, rs, qs, hOe, v3⟩ := u3
    obtain ⟨c, hd, _⟩ := v3.hd
    unfold rel_Of.k2
    refine nil ?_
    refine ldL_i hd ?_
    refine ldI_i r0 ?_
    refine idx hx ?_
    refine nil ?_
    refine ldP_i (by rw [Nat.zero_add]; exact v3.ptr x (by rw [v3.lr]; exact hx)) ?_
    refine ldI_i r1 ?_
    refine bits_Row_Put.c (v3.br hx) fun H4 u4 m4 _ => ?_
    have hq : ∀ b ∈ [qs[x]'(by rw [v3.lq]; exact hx)], b ∈ O := fun b hb => by simp at hb; subst hb; rw [hOe]; exact v3.mem hx
    refine chk (by omega) ⟨⟨i + 1, by omega, by omega, m4.le le3 fun b hb => hO b (hq b hb), ⟨B, rs, qs, hOe, ?_⟩, by rw [okn]; exact decide_eq_true ⟨by omega, by omega, by omega, by omega⟩⟩, by first | omega | (dsimp only; omega)⟩
    have := v3.setRow hx u4 m4
    rw [putRow hx] at this
    rw [hadd]; exact this
  · have e1 : l.take i = l := List.take_of_length_le (by omega)
    rw [e1] at u2 ok2
    exact h3 R O H2 ok2 u2 hO le2

/-- The ways by one pair more. -/
theorem clo_add {M : Nat → Nat → Bool} {n a b : Nat} (hs : Sup M n) (ht : Tr M) (ha : a < n) (hb : b < n) (x y : Nat) :
    clo (addM M n a b) n x y = (M x y || ((decide (x = a) || M x a) && (decide (y = b) || M b y))) := by
  have sA : Sup (addM M n a b) n := fun u v huv => by
    unfold addM
    rw [hs u v huv]
    have : ¬ ((u : Int) = (a : Int) ∧ (v : Int) = (b : Int) ∧ u < n ∧ v < n) := by omega
    rw [decide_eq_false this]; rfl
  have hadd : ∀ u v, addM M n a b u v = true ↔ M u v = true ∨ (u = a ∧ v = b) := fun u v => by
    unfold addM
    rw [Bool.or_eq_true, decide_eq_true_eq]
    constructor
    · rintro (h | h)
      · exact .inl h
      · exact .inr ⟨by omega, by omega⟩
    · rintro (h | ⟨rfl, rfl⟩)
      · exact .inl h
      · exact .inr ⟨rfl, rfl, ha, hb⟩
  have htr : Tr fun x y => (M x y || ((decide (x = a) || M x a) && (decide (y = b) || M b y))) := by
    intro u v w h1 h2
    simp only [Bool.or_eq_true, Bool.and_eq_true, decide_eq_true_eq] at h1 h2 ⊢
    rcases h1 with h1 | ⟨h1, h1'⟩
    · rcases h2 with h2 | ⟨h2, h2'⟩
      · exact .inl (ht _ _ _ h1 h2)
      · refine .inr ⟨?_, h2'⟩
        rcases h2 with rfl | h2
        · exact .inr h1
        · exact .inr (ht _ _ _ h1 h2)
    · rcases h2 with h2 | ⟨h2, h2'⟩
      · refine .inr ⟨h1, ?_⟩
        rcases h1' with rfl | h1'
        · exact .inr h2
        · exact .inr (ht _ _ _ h1' h2)
      · exact .inr ⟨h1, h2'⟩
  apply bool_ext
  constructor
  · intro e
    exact clo_least sA htr (fun u v h => by
      simp only [Bool.or_eq_true, Bool.and_eq_true, decide_eq_true_eq]
      rcases (hadd u v).1 h with h | ⟨h, h'⟩
      · exact .inl h
      · exact .inr ⟨.inl h, .inl h'⟩) e
  · intro e
    simp only [Bool.or_eq_true, Bool.and_eq_true, decide_eq_true_eq] at e
    have one : ∀ {u v}, addM M n a b u v = true → clo (addM M n a b) n u v = true := fun h => clo_ge sA h
    have tr := clo_tr sA
    have hab := one ((hadd a b).2 (.inr ⟨rfl, rfl⟩))
    rcases e with e | ⟨e1, e2⟩
    · exact one ((hadd x y).2 (.inl e))
    · have h1 : clo (addM M n a b) n x b = true := by
        rcases e1 with rfl | e1
        · exact hab
        · exact tr _ _ _ (one ((hadd _ _).2 (.inl e1))) hab
      rcases e2 with rfl | e2
      · exact h1
      · exact tr _ _ _ h1 (one ((hadd _ _).2 (.inl e2)))
theorem addM_sup {M : Nat → Nat → Bool} {n : Nat} {a b : Int} (hs : Sup M n) : Sup (addM M n a b) n := fun u v huv => by
  unfold addM
  rw [hs u v huv]
  have : ¬ ((u : Int) = a ∧ (v : Int) = b ∧ u < n ∧ v < n) := by omega
  rw [decide_eq_false this]; rfl

def inN (n : Nat) (a b : Int) : Bool := decide (0 ≤ a ∧ a < (n : Int) ∧ 0 ≤ b ∧ b < (n : Int))
/-- Joined; whether anything became so. -/
def jM (M : Nat → Nat → Bool) (n : Nat) (a b : Int) : Nat → Nat → Bool := if inN n a b then clo (addM M n a b) n else M
def jB (M : Nat → Nat → Bool) (n : Nat) (a b : Int) : Bool := inN n a b && !sameM (jM M n a b) M n
theorem jM_sup {M : Nat → Nat → Bool} {n : Nat} {a b : Int} (hs : Sup M n) : Sup (jM M n a b) n := by
  unfold jM
  split
  · exact clo_sup (addM_sup hs)
  · exact hs

end Go.Proofs.YteijgmmjgbgffaaDoor
