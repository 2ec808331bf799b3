/- Contracts. -/
import Derived.Test.YtcmooaimhloonaaDoorR3
namespace Go.Proofs.YtcmooaimhloonaaDoor
open Go.V
/-! ### Of pairs; joined -/
def okP (l : List (Int × Int)) (n : Nat) : Bool := l.all fun p => decide (0 ≤ p.1 ∧ p.1 < (n : Int) ∧ 0 ≤ p.2 ∧ p.2 < (n : Int))
def ofM (l : List (Int × Int)) (n : Nat) : Nat → Nat → Bool := fun x y => decide (x < n ∧ y < n) && l.any fun p => decide (p.1 = (x : Int) ∧ p.2 = (y : Int))
theorem ofM_snoc {l : List (Int × Int)} {n : Nat} {p : Int × Int} : ofM (l ++ [p]) n = addM (ofM l n) n p.1 p.2 := by
  funext x y
  unfold ofM addM
  rw [List.any_append]
  rw [Bool.eq_iff_iff]
  simp
  constructor
  · rintro ⟨h1, h2 | h2⟩
    · exact .inl ⟨h1, h2⟩
    · exact .inr ⟨h2.1.symm, h2.2.symm, h1.1, h1.2⟩
  · rintro (⟨h1, h2⟩ | ⟨h2, h3, h4, h5⟩)
    · exact ⟨h1, .inl h2⟩
    · exact ⟨⟨h4, h5⟩, .inr ⟨h2.symm, h3.symm⟩⟩
theorem ofM_sup (l : List (Int × Int)) (n : Nat) : Sup (ofM l n) n := fun x y h => by
  unfold ofM
  have : ¬ (x < n ∧ y < n) := by omega
  rw [decide_eq_false this, Bool.false_and]
theorem okP_snoc {l : List (Int × Int)} {n : Nat} {p : Int × Int} : okP (l ++ [p]) n = (okP l n && decide (0 ≤ p.1 ∧ p.1 < (n : Int) ∧ 0 ≤ p.2 ∧ p.2 < (n : Int))) := by unfold okP; rw [List.all_append]; simp
theorem okP_take {l : List (Int × Int)} {n i : Nat} (h : okP (l.take i) n = false) : okP l n = false := by
  unfold okP at *
  rw [List.all_eq_false] at *
  obtain ⟨x, hx, h⟩ := h
  exact ⟨x, List.mem_of_mem_take hx, h⟩

theorem rel_Of.c {n : Int} {lp : Option Addr} {ll lc : Nat} {l : List (Int × Int)} {H : Hp} {K : Option Addr → Int → Hp → Prop} (hl : Sn 2 pairC H lp ll lc l) (hll : l.length ≤ 1000000000) (hT : Tz H)
    (h1 : (n < 0 ∨ 200 < n) → K none 11 H) (h2 : ∀ H', 0 ≤ n → n ≤ 200 → okP l n.toNat = false → Le H H' → K none 10 H')
    (h3 : ∀ R O H', 0 ≤ n → n ≤ 200 → okP l n.toNat = true → RLO H' R O n.toNat (ofM l n.toNat) → (∀ b ∈ O, H b = none) → Le H H' → K (some ⟨R, 0, none⟩) 0 H') : rel_Of.C n lp ll lc H K := by
  apply rel_Of.of
  have hlen := hl.len
  refine bcd (fun h => h1 (.inl h)) (fun g1 => bcd (fun h => h1 (.inr h)) (fun g2 => ?_))
  obtain ⟨n, rfl⟩ : ∃ k : Nat, n = k := ⟨n.toNat, by omega⟩
  rw [Int.toNat_natCast] at h2 h3
  have h2 := fun H' => h2 H' (by omega) (by omega)
  have h3 := fun R O H' => h3 R O H' (by omega) (by omega)
  refine rel_New.c hT fun R O H1 u1 hO le1 => ?_
  rw [show (min (max (n : Int) 0) 200).toNat = n by omega] at u1
  refine ⟨fun t H' => ∃ i : Nat, t = i ∧ i ≤ ll ∧ Le H H' ∧ RLO H' R O n (ofM (l.take i) n) ∧ okP (l.take i) n = true, fun t _ => (ll - t).toNat, ⟨0, rfl, by omega, le1, u1.congr fun x y => by simp [ofM], by simp [okP]⟩, ?_⟩
  rintro t H2 ⟨i, rfl, hi, le2, u2, ok2⟩
  refine bcd (fun h => ?_) (fun h => ?_)
  · have hil : i < l.length := by omega
    have hts := List.take_succ_eq_append_getElem hil
    refine snP (hl.le le2) (by omega) (by omega) fun hi' => newP fun b hb => ?_
    simp only [Int.toNat_natCast]
    have leb : Le H2 (upd H2 b [.int .i64 l[i].1, .int .i64 l[i].2]) := .upd hb
    have r0 : rd (upd H2 b [.int .i64 l[i].1, .int .i64 l[i].2]) b 0 = some (.int .i64 l[i].1) := rd_upd_self
    have r1 : rd (upd H2 b [.int .i64 l[i].1, .int .i64 l[i].2]) b 1 = some (.int .i64 l[i].2) := rd_upd_self
    have hbO : b ∉ O := fun h => u2.there _ h hb
    have u3 := u2.le leb
    have le3 := le2.trans leb
    generalize upd H2 b [.int .i64 l[i].1, .int .i64 l[i].2] = H3 at *
    have bad : okP (l.take (i + 1)) n = false → K none 10 H3 := fun h => h2 H3 (okP_take h) le3
    have okn := okP_snoc (l := l.take i) (n := n) (p := l[i])
    rw [← hts, ok2, Bool.true_and] at okn
    refine ldI_i r0 ?_
    refine rel_Rel_there.c u3 ?_
    refine bcn (fun h => bad (by rw [okn]; have := of_decide_eq_false h; exact decide_eq_false fun g => this ⟨g.1, g.2.1⟩)) (fun ha => ?_)
    refine ldI_i r1 ?_
    refine rel_Rel_there.c u3 ?_
    refine bcn (fun h => bad (by rw [okn]; have := of_decide_eq_false h; exact decide_eq_false fun g => this g.2.2)) (fun hb' => ?_)
    have ha := of_decide_eq_true ha
    have hb' := of_decide_eq_true hb'
    have hadd := ofM_snoc (l := l.take i) (n := n) (p := l[i])
    rw [← hts] at hadd
    generalize l[i] = p at *
    obtain ⟨x, y⟩ := p
    simp only at *
    obtain ⟨x, rfl⟩ : ∃ k : Nat, x = k := ⟨x.toNat, by omega⟩
    obtain ⟨y, rfl⟩ : ∃ k : Nat, y = k := ⟨y.toNat, by omega⟩
    have hx : x < n := by omega
    have ⟨B, rs, qs, hOe, v3⟩ := u3
    obtain ⟨c, hd, _⟩ := v3.hd
    unfold rel_Of.k2
    refine nil ?_
    refine ldL_i hd ?_
    refine ldI_i r0 ?_
    refine idx hx ?_
    refine nil ?_
    refine ldP_i (by rw [Nat.zero_add]; exact v3.ptr x (by rw [v3.lr]; exact hx)) ?_
    refine ldI_i r1 ?_
    refine bits_Row_Put.c (v3.br hx) fun H4 u4 m4 _ => ?_
    have hq : ∀ b ∈ [qs[x]'(by rw [v3.lq]; exact hx)], b ∈ O := fun b hb => by simp at hb; subst hb; rw [hOe]; exact v3.mem hx
    refine chk (by omega) ⟨⟨i + 1, by omega, by omega, m4.le le3 fun b hb => hO b (hq b hb), ⟨B, rs, qs, hOe, ?_⟩, by rw [okn]; exact decide_eq_true ⟨by omega, by omega, by omega, by omega⟩⟩, by first | omega | (dsimp only; omega)⟩
    have := v3.setRow hx u4 m4
    rw [putRow hx] at this
    rw [hadd]; exact this
  · have e1 : l.take i = l := List.take_of_length_le (by omega)
    rw [e1] at u2 ok2
    exact h3 R O H2 ok2 u2 hO le2

/-- The ways by one pair more. -/
theorem clo_add {M : Nat → Nat → Bool} {n a b : Nat} (hs : Sup M n) (ht : Tr M) (ha : a < n) (hb : b < n) (x y : Nat) :
    clo (addM M n a b) n x y = (M x y || ((decide (x = a) || M x a) && (decide (y = b) || M b y))) := by
  have sA : Sup (addM M n a b) n := fun u v huv => by
    unfold addM
    rw [hs u v huv]
    have : ¬ ((u : Int) = (a : Int) ∧ (v : Int) = (b : Int) ∧ u < n ∧ v < n) := by omega
    rw [decide_eq_false this]; rfl
  have hadd : ∀ u v, addM M n a b u v = true ↔ M u v = true ∨ (u = a ∧ v = b) := fun u v => by
    unfold addM
    rw [Bool.or_eq_true, decide_eq_true_eq]
    constructor
    · rintro (h | h)
      · exact .inl h
      · exact .inr ⟨by omega, by omega⟩
    · rintro (h | ⟨rfl, rfl⟩)
      · exact .inl h
      · exact .inr ⟨rfl, rfl, ha, hb⟩
  have htr : Tr fun x y => (M x y || ((decide (x = a) || M x a) && (decide (y = b) || M b y))) := by
    intro u v w h1 h2
    simp only [Bool.or_eq_true, Bool.and_eq_true, decide_eq_true_eq] at h1 h2 ⊢
    rcases h1 with h1 | ⟨h1, h1'⟩
    · rcases h2 with h2 | ⟨h2, h2'⟩
      · exact .inl (ht _ _ _ h1 h2)
      · refine .inr ⟨?_, h2'⟩
        rcases h2 with rfl | h2
        · exact .inr h1
        · exact .inr (ht _ _ _ h1 h2)
    · rcases h2 with h2 | ⟨h2, h2'⟩
      · refine .inr ⟨h1, ?_⟩
        rcases h1' with rfl | h1'
        · exact .inr h2
        · exact .inr (ht _ _ _ h1' h2)
      · exact .inr ⟨h1, h2'⟩
  apply bool_ext
  constructor
  · intro e
    exact clo_least sA htr (fun u v h => by
      simp only [Bool.or_eq_true, Bool.and_eq_true, decide_eq_true_eq]
      rcases (hadd u v).1 h with h | ⟨h, h'⟩
      · exact .inl h
      · exact .inr ⟨.inl h, .inl h'⟩) e
  · intro e
    simp only [Bool.or_eq_true, Bool.and_eq_true, decide_eq_true_eq] at e
    have one : ∀ {u v}, addM M n a b u v = true → clo (addM M n a b) n u v = true := fun h => clo_ge sA h
    have tr := clo_tr sA
    have hab := one ((hadd a b).2 (.inr ⟨rfl, rfl⟩))
    rcases e with e | ⟨e1, e2⟩
    · exact one ((hadd x y).2 (.inl e))
    · have h1 : clo (addM M n a b) n x b = true := by
        rcases e1 with rfl | e1
        · exact hab
        · exact tr _ _ _ (one ((hadd _ _).2 (.inl e1))) hab
      rcases e2 with rfl | e2
      · exact h1
      · exact tr _ _ _ h1 (one ((hadd _ _).2 (.inl e2)))
theorem addM_sup {M : Nat → Nat → Bool} {n : Nat} {a b : Int} (hs : Sup M n) : Sup (addM M n a b) n := fun u v huv => by
  unfold addM
  rw [hs u v huv]
  have : ¬ ((u : Int) = a ∧ (v : Int) = b ∧ u < n ∧ v < n) := by omega
  rw [decide_eq_false this]; rfl

def inN (n : Nat) (a b : Int) : Bool := decide (0 ≤ a ∧ a < (n : Int) ∧ 0 ≤ b ∧ b < (n : Int))
/-- Joined; whether anything became so. -/
def jM (M : Nat → Nat → Bool) (n : Nat) (a b : Int) : Nat → Nat → Bool := if inN n a b then clo (addM M n a b) n else M
def jB (M : Nat → Nat → Bool) (n : Nat) (a b : Int) : Bool := inN n a b && !sameM (jM M n a b) M n
theorem jM_sup {M : Nat → Nat → Bool} {n : Nat} {a b : Int} (hs : Sup M n) : Sup (jM M n a b) n := by
  unfold jM
  split
  · exact clo_sup (addM_sup hs)
  · exact hs

theorem rel_Rel_Join.c {R n : Nat} {M : Nat → Nat → Bool} {O : List Nat} {a b : Int} {H : Hp} {K : Bool → Hp → Prop} (hu : RLO H R O n M)
    (hK : ∀ O' H', RLO H' R O' n (jM M n a b) → Mod O H H' → (∀ x ∈ O', x ∈ O ∨ H x = none) → K (jB M n a b) H') : rel_Rel_Join.C (some ⟨R, 0, none⟩) a b H K := by
  apply rel_Rel_Join.of
  have no : inN n a b = false → K false H := fun h => by
    have e1 : jM M n a b = M := by unfold jM; rw [h]; rfl
    have e2 : jB M n a b = false := by unfold jB; rw [h]; rfl
    have := hK O H (by rw [e1]; exact hu) .refl (fun x hx => .inl hx)
    rwa [e2] at this
  refine rel_Rel_there.c hu ?_
  refine bcn (fun h => no (by have := of_decide_eq_false h; exact decide_eq_false fun g => this ⟨g.1, g.2.1⟩)) (fun ha => ?_)
  refine rel_Rel_there.c hu ?_
  refine bcn (fun h => no (by have := of_decide_eq_false h; exact decide_eq_false fun g => this g.2.2)) (fun hb => ?_)
  have ha := of_decide_eq_true ha
  have hb := of_decide_eq_true hb
  have hin : inN n a b = true := decide_eq_true ⟨ha.1, ha.2, hb.1, hb.2⟩
  have ej : jM M n a b = clo (addM M n a b) n := by unfold jM; rw [hin]; rfl
  have eb : jB M n a b = !sameM (clo (addM M n a b) n) M n := by unfold jB; rw [hin, ej]; rfl
  rw [ej, eb] at hK
  obtain ⟨a, rfl⟩ : ∃ k : Nat, a = k := ⟨a.toNat, by omega⟩
  obtain ⟨b, rfl⟩ : ∃ k : Nat, b = k := ⟨b.toNat, by omega⟩
  have han : a < n := by omega
  have hbn : b < n := by omega
  have hsup := hu.sup
  have hlim := hu.lim
  refine rel_Rel_IsTransitive.c hu fun H1 le1 => ?_
  have u1 := hu.le le1
  refine bcn (fun ht => ?_) (fun ht => ?_)
  · -- all ways anew
    refine rel_Rel_Copy.c u1 fun R' O' H2 w2 hO' le2 => ?_
    have hap := u1.apart hO'
    refine rel_Rel_Add.c (u1.le le2) fun H3 u3 m3 => ?_
    have w3 := w2.mod m3 (fun x hx => hap.2.1 x hx) hu.g
    refine rel_Rel_Closure.c u3 fun R2 O2 H4 v4 hO2 le4 => ?_
    have hap2 := u3.apart hO2
    obtain ⟨B2, rs2, qs2, rfl, v4⟩ := v4
    obtain ⟨c2, hd2, hc2⟩ := v4.hd
    have u4 := u3.le le4
    obtain ⟨B, rs, qs, rfl, u4⟩ := u4
    obtain ⟨c, hd, _⟩ := u4.hd
    refine nil ?_
    refine ldL_i hd2 ?_
    refine nil ?_
    have mR : ∀ v, Mod [R] H4 (wr H4 R 0 v) := fun v => Mod.refl.wr (.inl (by simp))
    have hRO2 : ∀ x ∈ R2 :: B2 :: (rs2 ++ qs2), x ∉ [R] := fun x hx h => by
      simp at h; subst h; exact hap2.1 _ hx (by simp)
    have gR : gTab ∉ [R] := by have := hu.g; simp at this ⊢; exact this.1
    refine st hd ?_
    have v5 := v4.mod (mR (.slice (some ⟨B2, 0, none⟩) n c2)) (fun x hx h => hRO2 x h hx) gR
    have hg2 := v4.g
    have hnd := v4.nd
    have u5 : RL (wr H4 R 0 (.slice (some ⟨B2, 0, none⟩) n c2)) R B2 rs2 qs2 n (clo (addM M n a b) n) := by
      refine ⟨v5.tz, hlim, v5.lr, v5.lq, ⟨c2, rd_wr_self hd, hc2⟩, v5.hB, v5.ptr, v5.row, v5.out, ?_, ?_⟩
      · rw [List.nodup_cons] at hnd ⊢
        refine ⟨fun h => ?_, hnd.2⟩
        exact hRO2 R (List.mem_cons_of_mem _ h) (by simp)
      · simp only [List.mem_cons, not_or] at hg2 gR ⊢
        exact ⟨gR.1, hg2.2⟩
    have w5 := (w3.le le4).mod (mR (.slice (some ⟨B2, 0, none⟩) n c2)) (fun x hx h => by simp at hx; subst hx; exact hap.1 _ h (by simp)) gR
    refine rel_Rel_same.c ⟨B2, rs2, qs2, rfl, u5⟩ w5 ?_
    refine hK (R :: B2 :: (rs2 ++ qs2)) _ ⟨B2, rs2, qs2, rfl, u5⟩ (((le1.trans le2).mod.trans m3).andLe le4 |>.wr (.inl (by simp))) (fun x hx => ?_)
    rcases List.mem_cons.1 hx with rfl | hx
    · exact .inl (by simp)
    · by_cases hxO : x ∈ R :: B :: (rs ++ qs)
      · exact .inl hxO
      · right
        have := hO2 x (List.mem_cons_of_mem _ hx)
        cases hH : H x with
        | none => rfl
        | some d => rw [m3 x hxO _ (le2 _ _ (le1 _ _ hH))] at this; cases this
  · -- row by row
    have htr := (trB_iff hsup).1 ht
    have hclo := clo_add hsup htr han hbn
    have ⟨B, rs, qs, hO, v1⟩ := u1
    obtain ⟨c, hd, _⟩ := v1.hd
    refine v1.at rfl hbn ?_
    refine bits_Row_Copy.c (v1.br hbn) fun r' q' H2 t2 hr' hq' le2 => ?_
    refine bits_Row_Put.c t2 fun H3 t3 m3 _ => ?_
    have rO : r' ∉ O := fun h => u1.there _ h hr'
    have qO : q' ∉ O := fun h => u1.there _ h hq'
    have gq' : gTab ∉ [q'] := by simpa using t3.gq.symm
    have u3 := (u1.le le2).mod m3 (fun x hx h => by simp at hx; subst hx; exact qO h) gq'
    have t3 := t3.congr (s' := fun y => decide (y = b) || M b y) fun y => by
      rw [putB_nat]
      by_cases e : y = b
      · subst e; simp [hbn]
      · simp [e]
    have ⟨B3, rs3, qs3, hO3, v3⟩ := u3
    obtain ⟨c3, hd3, _⟩ := v3.hd
    refine nil ?_
    refine ldL_i hd3 ?_
    have hm3 : Mod O H H3 := by
      have : Mod [q'] H1 H3 := (le2.mod).trans m3
      intro x hx d hd'
      exact this x (by simp; intro e; subst e; rw [le1 _ _ hd'] at hq'; cases hq') d (le1 _ _ hd')
    refine ⟨fun is t H' => ∃ x : Nat, t = x ∧ x ≤ n ∧ Mod O H H' ∧ RLO H' R O n (fun u y => if u < x then clo (addM M n a b) n u y else M u y) ∧ BR H' r' q' n (fun y => decide (y = b) || M b y) ∧ is = (List.range x).any fun u => !sameB (clo (addM M n a b) n u) (M u) n, fun _ t _ => (n - t).toNat,
      ⟨0, rfl, by omega, hm3, u3.congr fun u y => by simp, t3, rfl⟩, ?_⟩
    rintro is t H4 ⟨x, rfl, hx, m4, u4, t4, his⟩
    refine bcd (fun h => ?_) (fun h => ?_)
    · have hxn : x < n := by omega
      have any_succ : (List.range (x + 1)).any (fun u => !sameB (clo (addM M n a b) n u) (M u) n) = (is || !sameB (clo (addM M n a b) n x) (M x) n) := by rw [List.range_succ, List.any_append, his]; simp
      -- nothing of x
      have skip : (M x a = false ∧ x ≠ a) → ∃ x' : Nat, (x : Int) + 1 = x' ∧ x' ≤ n ∧ Mod O H H4 ∧ RLO H4 R O n (fun u y => if u < x' then clo (addM M n a b) n u y else M u y) ∧ BR H4 r' q' n (fun y => decide (y = b) || M b y) ∧ is = (List.range x').any fun u => !sameB (clo (addM M n a b) n u) (M u) n := fun hh => by
        have e : ∀ y, clo (addM M n a b) n x y = M x y := fun y => by rw [hclo, hh.1]; simp [hh.2]
        refine ⟨x + 1, by omega, by omega, m4, u4.congr fun u y => ?_, t4, ?_⟩
        · by_cases hux : u = x
          · subst hux; rw [if_pos (by omega), if_neg (by omega), e]
          · by_cases hlt : u < x
            · rw [if_pos (by omega), if_pos hlt]
            · rw [if_neg (by omega), if_neg hlt]
        · rw [any_succ]
          have : sameB (clo (addM M n a b) n x) (M x) n = true := sameB_iff.2 fun y _ => e y
          rw [this]; simp
      have take : (M x a = true ∨ x = a) → rel_Rel_Join.k2 H4 (fun is t H' => ∃ x : Nat, t = x ∧ x ≤ n ∧ Mod O H H' ∧ RLO H' R O n (fun u y => if u < x then clo (addM M n a b) n u y else M u y) ∧ BR H' r' q' n (fun y => decide (y = b) || M b y) ∧ is = (List.range x).any fun u => !sameB (clo (addM M n a b) n u) (M u) n) is (fun _ t _ => (n - t).toNat) (some ⟨R, 0, none⟩) (some ⟨r', 0, none⟩) x true H4 := fun hh => by
        have e : ∀ y, clo (addM M n a b) n x y = (M x y || (decide (y = b) || M b y)) := fun y => by
          rw [hclo]
          rcases hh with hh | hh
          · rw [hh]; simp
          · simp [hh]
        refine bcT ?_
        have ⟨B4, rs4, qs4, hO4, v4⟩ := u4
        refine v4.at rfl hxn ?_
        have hqx : (qs4[x]'(by rw [v4.lq]; exact hxn)) ∈ O := by rw [hO4]; exact v4.mem hxn
        have rw4 := (v4.br hxn).congr (s' := M x) fun y => by simp
        refine bits_Row_Or.c rw4 t4 (by simp; intro e; exact qO (e ▸ hqx)) fun H5 u5 m5 => ?_
        have hmo : ∀ b ∈ [qs4[x]'(by rw [v4.lq]; exact hxn)], b ∈ O := fun b hb => by simp at hb; subst hb; exact hqx
        have t5 := t4.mod m5 (fun hb => rO (hmo _ hb)) (fun hb => qO (hmo _ hb)) (by simpa using rw4.gq.symm)
        have u6 : RLO H5 R O n (fun u y => if u < x + 1 then clo (addM M n a b) n u y else M u y) := by
          refine ⟨B4, rs4, qs4, hO4, (v4.setRow hxn u5 m5).congr fun u y => ?_⟩
          by_cases hux : u = x
          · subst hux
            rw [if_pos (by omega), if_pos rfl, e]
            unfold orB
            by_cases hy : y < n
            · simp [hy]
            · rw [hsup u y (.inr (by omega)), hsup b y (.inr (by omega))]
              have : ¬ y = b := by omega
              simp [this, hy]
          · rw [if_neg hux]
            by_cases hlt : u < x
            · rw [if_pos (by omega), if_pos hlt]
            · rw [if_neg (by omega), if_neg hlt]
        have hgr : grewB (M x) (fun y => decide (y = b) || M b y) n n = !sameB (clo (addM M n a b) n x) (M x) n := by
          apply bool_ext
          unfold grewB
          rw [List.any_eq_true, Bool.not_eq_true', ← Bool.not_eq_true, sameB_iff]
          constructor
          · rintro ⟨y, hy, h⟩ hall
            simp only [List.mem_range] at hy
            have h1 := hall y hy
            rw [e] at h1
            simp only [Bool.and_eq_true, Bool.or_eq_true, decide_eq_true_eq, Bool.not_eq_true'] at h
            rw [h.2] at h1
            simp at h1
            rcases h.1.2 with h2 | h2
            · exact h1.1 h2
            · rw [h1.2] at h2; cases h2
          · intro hno
            apply Classical.byContradiction
            intro hex
            apply hno
            intro y hy
            rw [e]
            cases hMy : M x y with
            | true => simp
            | false =>
              cases hT : (decide (y = b) || M b y) with
              | false => rfl
              | true =>
                exact absurd ⟨y, by simpa using hy, by show (decide (y < n) && (decide (y = b) || M b y) && !M x y) = true; rw [hT, hMy]; simp [hy]⟩ hex
        have fin : ∀ v : Bool, v = (List.range (x + 1)).any (fun u => !sameB (clo (addM M n a b) n u) (M u) n) → CHK .i64 ((x : Int) + 1) fun x86 => (∃ x' : Nat, x86 = x' ∧ x' ≤ n ∧ Mod O H H5 ∧ RLO H5 R O n (fun u y => if u < x' then clo (addM M n a b) n u y else M u y) ∧ BR H5 r' q' n (fun y => decide (y = b) || M b y) ∧ v = (List.range x').any fun u => !sameB (clo (addM M n a b) n u) (M u) n) ∧ ((n : Int) - x86).toNat < ((n : Int) - x).toNat := fun v hv =>
          chk (by omega) ⟨⟨x + 1, by omega, by omega, m4.trans (m5.mono hmo), u6, t5, hv⟩, by omega⟩
        refine bc_i (fun hg => fin true ?_) (fun hg => fin is ?_)
        · rw [any_succ, ← hgr, hg]; simp
        · rw [any_succ, ← hgr, hg]; simp
      refine bcd (fun hxa => take (.inr (by omega))) (fun hxa => ?_)
      refine rel_Rel_Has.c u4 ?_
      rw [hasM_nat]
      have hMx : (if x < x then clo (addM M n a b) n x a else M x a) = M x a := by simp
      rw [hMx]
      cases hxa' : M x a with
      | true => exact take (.inl hxa')
      | false => exact bcF (chk (by omega) ⟨skip ⟨hxa', by omega⟩, by first | omega | (dsimp only; omega)⟩)
    · obtain rfl : x = n := by omega
      have hs2 := clo_sup (addM_sup (a := a) (b := b) hsup)
      have e : is = !sameM (clo (addM M x a b) x) M x := by
        rw [his]
        unfold sameM
        rw [List.not_all_eq_any_not]
      rw [e]
      refine hK O H4 (u4.congr fun u y => ?_) m4 (fun x hx => .inl hx)
      by_cases hux : u < x
      · rw [if_pos hux]
      · rw [if_neg hux, hsup u y (.inl (by omega)), hs2 u y (.inl (by omega))]
end Go.Proofs.YtcmooaimhloonaaDoor
