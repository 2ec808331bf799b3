/- Contracts. -/
import Derived.Test.YteijgmmjgbgffaaDoorO7
import Derived.Test.YteijgmmjgbgffaaDoorS4
namespace Go.Proofs.YteijgmmjgbgffaaDoor
open Go.V
/-! ### Objects: the parts -/
def labOk (ls : List BL) : Bool := ls.all fun x => decide (x.length ≤ 60)
def labE (ls : List BL) : Int := if 40 < ls.length then 11 else if labOk ls then 0 else 10
theorem slices_IndexFunc_string_string.c {f : Value} {g : BL → Bool} {p : Option Addr} {l c : Nat} {xs : List BL} {H : Hp} {K : Int → Hp → Prop} (h : Sl sv H p l c xs) (hl : l ≤ 1000000000)
    (hf : ∀ x H' (K' : Bool → Hp → Prop), K' (g x) H' → CallV prog f [.string (mkB x)] H' fun v H'' => liftB v fun r => K' r H'')
    (hno : xs.any g = false → K (-1) H) (hyes : ∀ i : Nat, xs.any g = true → K (i : Int) H) : slices_IndexFunc_string_string.C p l c f H K := by
  apply slices_IndexFunc_string_string.of
  have hlen := h.len
  refine ⟨fun t Hx => ∃ i : Nat, t = (i : Nat) ∧ i ≤ l ∧ Hx = H ∧ (xs.take i).any g = false, fun t _ => ((l : Int) - t).toNat, ⟨0, rfl, Nat.zero_le _, rfl, rfl⟩, ?_⟩
  rintro t Hx ⟨i, rfl, gi, rfl, hi⟩
  refine bcd (fun hlt => ?_) (fun hlt => ?_)
  · have hil : i < xs.length := by omega
    refine slS h (fun _ => rfl) (by omega) hlt fun _ => ?_
    simp only [Int.toNat_natCast]
    refine hf xs[i] Hx (fun r H'' => bc r (K (i : Nat) H'') _) (bc_i (fun hg => ?_) fun hg => ?_)
    · exact hyes i (List.any_eq_true.2 ⟨_, List.getElem_mem hil, hg⟩)
    · refine chk (by omega) ⟨⟨i + 1, by omega, by omega, rfl, ?_⟩, by first | omega | (dsimp only; omega)⟩
      rw [List.take_succ_eq_append_getElem hil, List.any_append, hi]
      simp [hg]
  · refine hno ?_
    rw [List.take_of_length_le (by omega)] at hi
    exact hi
theorem slices_ContainsFunc_string_string.c {f : Value} {g : BL → Bool} {p : Option Addr} {l c : Nat} {xs : List BL} {H : Hp} {K : Bool → Hp → Prop} (h : Sl sv H p l c xs) (hl : l ≤ 1000000000)
    (hf : ∀ x H' (K' : Bool → Hp → Prop), K' (g x) H' → CallV prog f [.string (mkB x)] H' fun v H'' => liftB v fun r => K' r H'')
    (hK : K (xs.any g) H) : slices_ContainsFunc_string_string.C p l c f H K := by
  apply slices_ContainsFunc_string_string.of
  refine slices_IndexFunc_string_string.c h hl hf (fun e => ?_) (fun i e => ?_)
  · rw [e] at hK; exact hK
  · rw [e] at hK
    rw [decide_eq_true (show (0 : Int) ≤ (i : Nat) by omega)]
    exact hK
theorem obj_labels.c {p : Option Addr} {l c : Nat} {ls : List BL} {H : Hp} {K : Int → Hp → Prop} (h : Sl sv H p l c ls) (hK : K (labE ls) H) : obj_labels.C p l c H K := by
  apply obj_labels.of
  have hlen := h.len
  unfold labE at hK
  refine bcd (fun h1 => ?_) (fun h1 => ?_)
  · rw [if_pos (by omega)] at hK; exact hK
  · rw [if_neg (by omega)] at hK
    refine slices_ContainsFunc_string_string.c (g := fun x => decide ((60 : Int) < (x.length : Nat))) h (by omega) (fun x H' K' h => obj_labels_1.of _ (by rw [← sv_size x] at h; exact h)) ?_
    have e : labOk ls = !(ls.any fun x => decide ((60 : Int) < (x.length : Nat))) := by
      unfold labOk
      rw [List.not_any_eq_all_not]
      congr 1
      funext x
      rw [← decide_not]
      exact decide_eq_decide.2 (by omega)
    rw [e] at hK
    refine bc_i (fun h => ?_) fun h => ?_
    · rw [h] at hK; simpa using hK
    · rw [h] at hK; simpa using hK

def cmpI (x y : Int) : Int := if x < y then -1 else if y < x then 1 else 0
def cmpP (p q : Int × Int) : Int := if cmpI p.1 q.1 ≠ 0 then cmpI p.1 q.1 else cmpI p.2 q.2
def lexL (p q : Int × Int) : Bool := decide (p.1 < q.1 ∨ p.1 = q.1 ∧ p.2 < q.2)
theorem cmpP_lex {p q : Int × Int} : (0 ≤ cmpP p q) ↔ lexL p q = false := by
  unfold cmpP cmpI lexL
  rw [decide_eq_false_iff_not]
  split
  · split <;> (try split) <;> omega
  · split at * <;> (try split at *) <;> (try split) <;> omega
theorem cmpI_in (x y : Int) : -1 ≤ cmpI x y ∧ cmpI x y ≤ 1 := by unfold cmpI; split <;> (try split) <;> omega
theorem cmp_Compare_int.c {x y : Int} {H : Hp} {K : Int → Hp → Prop} (hK : K (cmpI x y) H) : cmp_Compare_int.C x y H K := by
  apply cmp_Compare_int.of
  refine cmp_isNaN_int.of _ ?_
  refine cmp_isNaN_int.of _ ?_
  unfold cmpI at hK
  refine bcd (fun h => absurd rfl h) fun _ => bcd (fun h => absurd rfl h) fun _ => bcd (fun h => ?_) fun h => bcd (fun h' => ?_) fun h' => ?_
  · rw [if_pos h] at hK; exact hK
  · rw [if_neg h, if_pos h'] at hK; exact hK
  · rw [if_neg h, if_neg h'] at hK; exact hK
theorem cmp_Or_int.two {b : Nat} {x y : Int} {H : Hp} {K : Int → Hp → Prop} (h0 : rd H b 0 = some (.int .i64 x)) (h1 : rd H b 1 = some (.int .i64 y)) (hK : K (if x ≠ 0 then x else y) H) : cmp_Or_int.C (some ⟨b, 0, none⟩) 2 2 H K := by
  apply cmp_Or_int.of
  refine ⟨fun t Hx => ∃ i : Nat, t = (i : Nat) ∧ i ≤ 2 ∧ Hx = H ∧ (1 ≤ i → x = 0) ∧ (2 ≤ i → y = 0), fun t _ => (2 - t).toNat, ⟨0, rfl, by omega, rfl, fun h => by omega, fun h => by omega⟩, ?_⟩
  rintro t Hx ⟨i, rfl, gi, rfl, e1, e2⟩
  refine bcd (fun h => ?_) (fun h => ?_)
  · have : i = 0 ∨ i = 1 := by omega
    rcases this with rfl | rfl
    · refine idxN 0 rfl (by decide) (nil (ldI_i h0 (bcd (fun hx => ?_) fun hx => ?_)))
      · rw [if_pos hx] at hK; exact hK
      · exact chk (by omega) ⟨⟨1, by omega, by omega, rfl, fun _ => Classical.not_not.1 hx, fun h => by omega⟩, by first | omega | (dsimp only; omega)⟩
    · have hx := e1 (by omega)
      rw [if_neg (by omega)] at hK
      refine idxN 1 rfl (by decide) (nil (ldI_i h1 (bcd (fun hy => ?_) fun hy => ?_)))
      · exact hK
      · exact chk (by omega) ⟨⟨2, by omega, by omega, rfl, fun _ => hx, fun _ => Classical.not_not.1 hy⟩, by first | omega | (dsimp only; omega)⟩
  · have hi2 : i = 2 := by omega
    rw [if_neg (by have := e1 (by omega); omega), e2 (by omega)] at hK
    exact hK
theorem obj_compare.c {p q : Int × Int} {H : Hp} {K : Int → Hp → Prop} (hK : ∀ H', Le H H' → K (cmpP p q) H') : obj_compare.C p.1 p.2 q.1 q.2 H K := by
  apply obj_compare.of
  intro b5 hb5
  have a0 : rd (upd H b5 [.int .i64 p.1, .int .i64 p.2]) b5 0 = some (.int .i64 p.1) := by rw [rd_upd_self]; rfl
  have a1 : rd (upd H b5 [.int .i64 p.1, .int .i64 p.2]) b5 1 = some (.int .i64 p.2) := by rw [rd_upd_self]; rfl
  have le1 : Le H (upd H b5 [.int .i64 p.1, .int .i64 p.2]) := Le.upd hb5
  generalize upd H b5 [.int .i64 p.1, .int .i64 p.2] = H1 at *
  intro b7 hb7
  have c0 : rd (upd H1 b7 [.int .i64 q.1, .int .i64 q.2]) b7 0 = some (.int .i64 q.1) := by rw [rd_upd_self]; rfl
  have c1 : rd (upd H1 b7 [.int .i64 q.1, .int .i64 q.2]) b7 1 = some (.int .i64 q.2) := by rw [rd_upd_self]; rfl
  have le2 : Le H1 (upd H1 b7 [.int .i64 q.1, .int .i64 q.2]) := Le.upd hb7
  generalize upd H1 b7 [.int .i64 q.1, .int .i64 q.2] = H2 at *
  refine ldI_i (le2.rd a0) (ldI_i c0 (ldI_i (le2.rd a1) (ldI_i c1 (cmp_Compare_int.c ⟨c1, le2.rd a1, cmp_Compare_int.c ?_⟩))))
  intro b21 hb21
  refine cmp_Or_int.two (x := cmpI p.1 q.1) (y := cmpI p.2 q.2) (by rw [rd_upd_self]; rfl) (by rw [rd_upd_self]; rfl) ?_
  exact hK _ ((le1.trans le2).trans (Le.upd hb21))

theorem slices_Equal_string_string.c {ap bp : Option Addr} {al ac bl bc' : Nat} {a b : List BL} {H : Hp} {K : Bool → Hp → Prop} (ha : Sl sv H ap al ac a) (hb : Sl sv H bp bl bc' b) (hl : al ≤ 1000000000) (hK : K (decide (a = b)) H) : slices_Equal_string_string.C ap al ac bp bl bc' H K := by
  apply slices_Equal_string_string.of
  have la := ha.len
  have lb := hb.len
  have no : ¬ a = b → K false H := fun h => by rwa [decide_eq_false h] at hK
  refine bcd (fun h => no fun e => h (by rw [la, lb, e])) (fun h => ?_)
  refine ⟨fun i Hx => ∃ i' : Nat, i = i' ∧ i' ≤ al ∧ H = Hx ∧ a.take i' = b.take i', fun i _ => (al - i).toNat, ⟨0, rfl, by omega, rfl, rfl⟩, ?_⟩
  rintro i _ ⟨i, rfl, hi, rfl, he⟩
  refine bcd (fun h => ?_) (fun h => ?_)
  · have hia : i < a.length := by omega
    have hib : i < b.length := by omega
    refine slS ha (fun _ => rfl) (by omega) (by omega) fun _ => slS hb (fun _ => rfl) (by omega) (by omega) fun _ => ?_
    simp only [Int.toNat_natCast]
    refine bcd (fun h => no fun e => ?_) (fun h => ?_)
    · subst e; exact h rfl
    · have e : a[i] = b[i] := congrArg L (Classical.not_not.1 h)
      exact chk (by omega) ⟨⟨i + 1, by omega, by omega, by trivial, by rw [List.take_succ_eq_append_getElem hia, List.take_succ_eq_append_getElem hib, he, e]⟩, by first | omega | (dsimp only; omega)⟩
  · have e : a = b := by
      rw [List.take_of_length_le (by omega), List.take_of_length_le (by omega)] at he
      exact he
    rwa [decide_eq_true e] at hK
theorem slices_Equal_api_Pair_api_Pair.c {ap bp : Option Addr} {al ac bl bc' : Nat} {a b : List (Int × Int)} {H : Hp} {K : Bool → Hp → Prop} (ha : Sn 2 pairC H ap al ac a) (hb : Sn 2 pairC H bp bl bc' b) (hl : al ≤ 1000000000) (hK : K (decide (a = b)) H) : slices_Equal_api_Pair_api_Pair.C ap al ac bp bl bc' H K := by
  apply slices_Equal_api_Pair_api_Pair.of
  have la := ha.len
  have lb := hb.len
  have no : ¬ a = b → K false H := fun h => by rwa [decide_eq_false h] at hK
  refine bcd (fun h => no fun e => h (by rw [la, lb, e])) (fun h => ?_)
  refine ⟨fun i Hx => ∃ i' : Nat, i = i' ∧ i' ≤ al ∧ H = Hx ∧ a.take i' = b.take i', fun i _ => (al - i).toNat, ⟨0, rfl, by omega, rfl, rfl⟩, ?_⟩
  rintro i _ ⟨i, rfl, hi, rfl, he⟩
  refine bcd (fun h => ?_) (fun h => ?_)
  · have hia : i < a.length := by omega
    have hib : i < b.length := by omega
    refine snP ha (by omega) (by omega) fun _ => snP hb (by omega) (by omega) fun _ => ?_
    simp only [Int.toNat_natCast]
    refine bcn (fun h => no fun e => ?_) (fun h => ?_)
    · subst e; simp at h
    · have e : a[i] = b[i] := by
        rw [Bool.and_eq_true, decide_eq_true_eq, decide_eq_true_eq] at h
        exact Prod.ext h.1 h.2
      exact chk (by omega) ⟨⟨i + 1, by omega, by omega, by trivial, by rw [List.take_succ_eq_append_getElem hia, List.take_succ_eq_append_getElem hib, he, e]⟩, by first | omega | (dsimp only; omega)⟩
  · have e : a = b := by
      rw [List.take_of_length_le (by omega), List.take_of_length_le (by omega)] at he
      exact he
    rwa [decide_eq_true e] at hK
theorem slices_Clone_string_string.s {p : Option Addr} {l k : Nat} {xs : List BL} {H : Hp} {K : Option Addr → Nat → Nat → Hp → Prop} (h : Sl sv H p l k xs) (hfit : l ≤ 1000000000) (hK : ∀ p' k' H', Buf 1 H H' p' l k' (xs.map sv) → (p = none ↔ p' = none) → Le H H' → K p' l k' H') : slices_Clone_string_string.C p l k H K := by
  apply slices_Clone_string_string.of
  exact clonS rfl rfl (by decide) rfl (fun _ => rfl) h (by show l * 16 ≤ _; omega) hK
theorem pairC_cell (x : Int × Int) : (pairC x).all isCell = true := rfl
theorem slices_Clone_api_Pair_api_Pair.s {p : Option Addr} {l k : Nat} {xs : List (Int × Int)} {H : Hp} {K : Option Addr → Nat → Nat → Hp → Prop} (h : Sn 2 pairC H p l k xs) (hfit : l ≤ 1000000000) (hK : ∀ p' k' H', Buf 2 H H' p' l k' (xs.flatMap pairC) → (p = none ↔ p' = none) → Le H H' → K p' l k' H') : slices_Clone_api_Pair_api_Pair.C p l k H K := by
  apply slices_Clone_api_Pair_api_Pair.of
  exact clonN rfl (by decide) rfl (by decide) rfl (fun _ => rfl) pairC_cell h (by show l * 16 ≤ _; omega) hK
end Go.Proofs.YteijgmmjgbgffaaDoor
