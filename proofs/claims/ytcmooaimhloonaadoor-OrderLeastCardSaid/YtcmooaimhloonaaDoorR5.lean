/- Contracts. -/
import Derived.Test.YtcmooaimhloonaaDoorR4
namespace Go.Proofs.YtcmooaimhloonaaDoor
open Go.V
/-! ### What the laws of relations start with -/
theorem centolaw2_same.c {ap bp : Option Addr} {al ac bl bc' : Nat} {a b : List (Int × Int)} {H : Hp} {K : Bool → Hp → Prop} (ha : Sn 2 pairC H ap al ac a) (hb : Sn 2 pairC H bp bl bc' b) (hl : a.length ≤ 1000000000) (hK : K (decide (a = b)) H) : centolaw2_same.C ap al ac bp bl bc' H K := by
  apply centolaw2_same.of
  have la := ha.len
  have lb := hb.len
  have no : ¬ a = b → K false H := fun h => by rwa [decide_eq_false h] at hK
  refine bcd (fun h => no fun e => h (by rw [la, lb, e])) (fun h => ?_)
  refine ⟨fun i Hx => ∃ i' : Nat, i = i' ∧ i' ≤ al ∧ H = Hx ∧ a.take i' = b.take i', fun i _ => (al - i).toNat, ⟨0, rfl, by omega, rfl, rfl⟩, ?_⟩
  rintro i _ ⟨i, rfl, hi, rfl, he⟩
  refine bcd (fun h => ?_) (fun h => ?_)
  · have hia : i < a.length := by omega
    have hib : i < b.length := by omega
    refine snP ha (by omega) (by omega) fun _ => snP hb (by omega) (by omega) fun _ => ?_
    simp only [Int.toNat_natCast]
    refine bcn (fun h => no fun e => ?_) (fun h => ?_)
    · subst e; simp at h
    · have e : a[i] = b[i] := by
        rw [Bool.and_eq_true, decide_eq_true_eq, decide_eq_true_eq] at h
        exact Prod.ext h.1 h.2
      exact chk (by omega) ⟨⟨i + 1, by omega, by omega, by trivial, by rw [List.take_succ_eq_append_getElem hia, List.take_succ_eq_append_getElem hib, he, e]⟩, by first | omega | (dsimp only; omega)⟩
  · have e : a = b := by
      rw [List.take_of_length_le (by omega), List.take_of_length_le (by omega)] at he
      exact he
    rwa [decide_eq_true e] at hK

theorem sn_lit2 {H : Hp} {b : Nat} {x y z w : Int} : Sn 2 pairC (upd H b [.int .i64 x, .int .i64 y, .int .i64 z, .int .i64 w]) (some ⟨b, 0, none⟩) 2 2 [(x, y), (z, w)] :=
  ⟨rfl, Nat.le_refl _, .inr ⟨b, 0, rfl, fun i hi j v e => by
    rw [rd_upd_self]
    match i, hi with
    | 0, _ => match j, e with
      | 0, e => simp [pairC] at e; subst e; rfl
      | 1, e => simp [pairC] at e; subst e; rfl
      | j + 2, e => simp [pairC] at e
    | 1, _ => match j, e with
      | 0, e => simp [pairC] at e; subst e; rfl
      | 1, e => simp [pairC] at e; subst e; rfl
      | j + 2, e => simp [pairC] at e⟩⟩
theorem sn_lit1 {H : Hp} {b : Nat} {x y : Int} : Sn 2 pairC (upd H b [.int .i64 x, .int .i64 y]) (some ⟨b, 0, none⟩) 1 1 [(x, y)] :=
  ⟨rfl, Nat.le_refl _, .inr ⟨b, 0, rfl, fun i hi j v e => by
    rw [rd_upd_self]
    match i, hi with
    | 0, _ => match j, e with
      | 0, e => simp [pairC] at e; subst e; rfl
      | 1, e => simp [pairC] at e; subst e; rfl
      | j + 2, e => simp [pairC] at e⟩⟩

theorem sameM_refl {M : Nat → Nat → Bool} {n : Nat} : sameM M M n = true := sameM_iff.2 fun _ _ _ _ => rfl
theorem prs_len_le (M : Nat → Nat → Bool) (n : Nat) : (prs M n).length ≤ n * n := by
  unfold prs
  rw [List.length_flatMap]
  have : ∀ l : List Nat, ((l.map fun x => ((els (M x) n).map fun (y : Nat) => ((x : Int), (y : Int))).length)).sum ≤ l.length * n := by
    intro l
    induction l with
    | nil => simp
    | cons x l ih =>
      rw [List.map_cons, List.sum_cons, List.length_cons, Nat.add_mul]
      have := els_len_le (M x) n
      rw [List.length_map]
      omega
  simpa using this (List.range n)

theorem centolaw2_known.c {H : Hp} {K : Bool → Hp → Prop} (hT : Tz H) (hK : ∀ H', Le H H' → K true H') : centolaw2_known.C H K := by
  apply centolaw2_known.of
  intro b1 hb1
  have le1 : Le H (upd H b1 [.int .i64 0, .int .i64 1, .int .i64 1, .int .i64 2]) := .upd hb1
  have s1 := sn_lit2 (H := H) (b := b1) (x := 0) (y := 1) (z := 1) (w := 2)
  generalize upd H b1 [.int .i64 0, .int .i64 1, .int .i64 1, .int .i64 2] = H1 at *
  refine rel_Of.c s1 (by decide) (hT.le le1) (fun h => by omega) (fun H' _ _ h => by exact absurd h (by decide)) fun R O H2 _ _ _ u2 hO2 le2 => ?_
  rw [show (3 : Int).toNat = 3 from rfl] at u2
  have le02 := le1.trans le2
  intro b2 hb2
  have le3 : Le H2 (upd H2 b2 [.int .i64 0, .int .i64 2]) := .upd hb2
  have s3 := sn_lit1 (H := H2) (b := b2) (x := 0) (y := 2)
  generalize upd H2 b2 [.int .i64 0, .int .i64 2] = H3 at *
  refine rel_Of.c s3 (by decide) (hT.le (le02.trans le3)) (fun h => by omega) (fun H4 _ _ _ le4 => ?_) fun _ _ _ _ _ h => absurd h (by decide)
  refine rel_Of.c (Sn.nil (f := pairC)) (by decide) (hT.le ((le02.trans le3).trans le4)) (fun _ => ?_) (fun _ h => absurd h (by decide)) (fun _ _ _ h => absurd h (by decide))
  refine bcd (fun h => absurd rfl h) fun _ => ?_
  have le04 := (le02.trans le3).trans le4
  have u4 := u2.le (le3.trans le4)
  have hsup := u4.sup
  refine rel_Rel_Closure.c u4 fun R5 O5 H5 u5 hO5 le5 => ?_
  refine bcd (fun _ => ?_) fun h => absurd rfl h
  refine bcd (fun _ => ?_) fun h => absurd rfl h
  have v5 := u4.le le5
  refine rel_Rel_Len.c v5 ?_
  refine bcd (fun _ => ?_) fun h => absurd rfl h
  refine rel_Rel_Has.c v5 ?_
  rw [show hasM (ofM [(0, 1), (1, 2)] 3) 0 2 = false by decide]
  refine bcT (rel_Rel_Has.c u5 ?_)
  rw [show hasM (clo (ofM [(0, 1), (1, 2)] 3) 3) 0 2 = true by decide +kernel]
  refine bcT (rel_Rel_IsTransitive.c v5 fun H6 le6 => ?_)
  rw [show sameM (ofM [(0, 1), (1, 2)] 3) (clo (ofM [(0, 1), (1, 2)] 3) 3) 3 = false by decide +kernel]
  have u6 := u5.le le6
  refine bcT (rel_Rel_IsTransitive.c u6 fun H7 le7 => ?_)
  rw [(trB_iff (clo_sup hsup)).2 (clo_tr hsup)]
  have u7 := u6.le le7
  refine bcT (rel_Rel_Pairs.c u7 fun p l c H8 s8 _ le8 => ?_)
  have hl := s8.len
  rw [show (prs (clo (ofM [(0, 1), (1, 2)] 3) 3) 3).length = 3 by decide +kernel] at hl
  refine bcd (fun _ => ?_) fun h => absurd (by rw [hl]; rfl) h
  have u8 := u7.le le8
  refine rel_Rel_Join.c u8 fun O9 H9 u9 m9 _ => ?_
  have hj : jB (clo (ofM [(0, 1), (1, 2)] 3) 3) 3 0 1 = false := by
    unfold jB jM
    rw [show inN 3 0 1 = true by decide, if_pos rfl, addM_has (by decide +kernel), clo_clo hsup, sameM_refl]; rfl
  rw [hj]
  have hO5' : ∀ x ∈ O5, H x = none := fun x hx => none_of_le le04 (hO5 x hx)
  have le9 : Le H H9 := m9.le ((((le04.trans le5).trans le6).trans le7).trans le8) hO5'
  refine bcT (rel_New.c u9.tz fun R10 O10 H10 u10 hO10 le10 => ?_)
  rw [show (min (max (4 : Int) 0) 200).toNat = 4 by decide] at u10
  refine rel_Rel_Add.c u10 fun H11 u11 m11 => ?_
  rw [show addB (fun _ _ => false) 4 1 1 = true by decide]
  exact hK H11 (m11.le (le9.trans le10) fun x hx => none_of_le le9 (hO10 x hx))

/-- A relation that grows stays apart from one that is. -/
theorem RLO.stay {H : Hp} {R n : Nat} {M : Nat → Nat → Bool} {O P P' : List Nat} (h : RLO H R O n M) (hd : ∀ x ∈ P, x ∉ O) (hP : ∀ x ∈ P', x ∈ P ∨ H x = none) : ∀ x ∈ P', x ∉ O := fun x hx hxO => by
  rcases hP x hx with h' | h'
  · exact hd x h' hxO
  · exact h.there x hxO h'
end Go.Proofs.YtcmooaimhloonaaDoor
