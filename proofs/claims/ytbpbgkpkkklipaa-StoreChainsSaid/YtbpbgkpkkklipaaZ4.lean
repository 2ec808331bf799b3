/- Contracts and plain laws that the claim rests on, for every input: no condition. -/
import Derived.Test.YtbpbgkpkkklipaaZ3
namespace Go.Proofs.Ytbpbgkpkkklipaa
open Go.V
/-! ### Sorts: texts -/
theorem mkB_list (x : BL) : (mkB x).toList = x := ByteArray.toList_eq _
theorem rdT {H : Hp} {p : Option Addr} {l : Nat} {d : Array BL} (h : A1 sv H p l d) (k : Nat) {e : Int} (he : e = (k : Int)) (hk : k < d.size) {F : ByteArray → Prop} (hF : F (mkB d[k]!)) : IDX e l fun k => NIL p fun b o => ldS (rd H b (o + k)) F := A1.S (g := mkB) h (fun _ => rfl) k he hk hF
theorem swT {H : Hp} {p : Option Addr} {l : Nat} {d : Array BL} (h : A1 sv H p l d) {i j : Nat} {ei ej : Int} (hi : i < d.size) (hj : j < d.size) (hei : ei = (i : Int)) (hej : ej = (j : Int)) {F : Hp → Prop}
    (hF : ∀ H', A1 sv H' p l (Sort.swp d i j) → Mod (blkL p) H H' → F H') : IDX ei l fun k => NIL p fun b o => ST H b (o + k) (.string (mkB d[j]!)) fun H1 => IDX ej l fun k => NIL p fun b o => ST H1 b (o + k) (.string (mkB d[i]!)) F := A1.sw h (fun _ => rfl) hi hj hei hej hF
section
variable {H : Hp} {p : Option Addr} {l cc : Nat} {d : Array BL}
end
section
variable {H : Hp} {p : Option Addr} {l cc : Nat} {d : Array BL}
end
end Go.Proofs.Ytbpbgkpkkklipaa
namespace Go.Proofs.Ytbpbgkpkkklipaa
open Go.V
/-! ### Rows that rise -/
def cmp3 {α : Type} (lt : α → α → Bool) (x y : α) : Int := if lt x y then -1 else if lt y x then 1 else 0
theorem cmp3_ge {α : Type} {lt : α → α → Bool} {x y : α} (h : 0 ≤ cmp3 lt x y) : lt x y = false := by
  unfold cmp3 at h
  cases e : lt x y with
  | false => rfl
  | true => rw [e, if_pos rfl] at h; omega
theorem cmp3_lt {α : Type} {lt : α → α → Bool} {x y : α} (h : cmp3 lt x y < 0) : lt x y = true := by
  unfold cmp3 at h
  cases e : lt x y with
  | true => rfl
  | false =>
    rw [e, if_neg (by decide)] at h
    split at h <;> omega
def rsB {α : Type} (lt : α → α → Bool) : List α → Bool
  | a :: b :: r => lt a b && rsB lt (b :: r)
  | _ => true
theorem rsB_iff {α : Type} {lt : α → α → Bool} : ∀ {xs : List α}, rsB lt xs = true ↔ ∀ i (h : i + 1 < xs.length), lt xs[i] xs[i + 1] = true
  | [] => by simp [rsB]
  | [a] => by simp [rsB]
  | a :: b :: r => by
    rw [rsB, Bool.and_eq_true, rsB_iff (xs := b :: r)]
    constructor
    · rintro ⟨h1, h2⟩ i h
      cases i with
      | zero => exact h1
      | succ i => exact h2 i (by simpa using h)
    · intro h
      exact ⟨h 0 (by simp), fun i hi => h (i + 1) (by simpa using hi)⟩
theorem rsB_one {α : Type} {lt : α → α → Bool} {xs : List α} (h : xs.length ≤ 1) : rsB lt xs = true := rsB_iff.2 fun i hi => by omega
theorem rsB_bad {α : Type} {lt : α → α → Bool} {xs : List α} {i : Nat} (hi : i < xs.length) (h1 : 1 ≤ i) (h : lt (xs[i - 1]'(by omega)) xs[i] = false) : rsB lt xs = false := by
  cases e : rsB lt xs with
  | false => rfl
  | true =>
    have := rsB_iff.1 e (i - 1) (by omega)
    simp only [show i - 1 + 1 = i by omega] at this
    rw [this] at h; cases h
theorem rsB_next {α : Type} {lt : α → α → Bool} {xs : List α} {i : Nat} (hi : i < xs.length) (h1 : 1 ≤ i) (hr : rsB lt (xs.take i) = true) (h : lt (xs[i - 1]'(by omega)) xs[i] = true) : rsB lt (xs.take (i + 1)) = true := by
  rw [rsB_iff] at hr ⊢
  intro j hj
  rw [List.length_take] at hj
  simp only [List.getElem_take]
  by_cases e : j + 1 = i
  · have : j = i - 1 := by omega
    subst this
    simp only [show i - 1 + 1 = i by omega]
    exact h
  · have := hr j (by rw [List.length_take]; omega)
    simpa only [List.getElem_take] using this
theorem rsB_pw {α : Type} {lt : α → α → Bool} (ht : ∀ x y z, lt x y = true → lt y z = true → lt x z = true) : ∀ {xs : List α}, rsB lt xs = true ↔ xs.Pairwise fun a b => lt a b = true
  | [] => by simp [rsB]
  | [a] => by simp [rsB]
  | a :: b :: r => by
    rw [rsB, Bool.and_eq_true, rsB_pw ht (xs := b :: r)]
    constructor
    · rintro ⟨h1, h2⟩
      refine List.pairwise_cons.2 ⟨fun x hx => ?_, h2⟩
      rcases List.mem_cons.1 hx with rfl | hx
      · exact h1
      · exact ht _ _ _ h1 ((List.pairwise_cons.1 h2).1 x hx)
    · intro h
      obtain ⟨h1, h2⟩ := List.pairwise_cons.1 h
      exact ⟨h1 b (by simp), h2⟩
/-- Each once, of neighbours that are alike. -/
def ddTo {α : Type} [DecidableEq α] (xs : List α) : Nat → List α
  | 0 => []
  | j + 1 => if 0 < j ∧ xs[j]? = xs[j - 1]? then ddTo xs j else ddTo xs j ++ (xs[j]?).toList
section
variable {α : Type} [DecidableEq α]
theorem ddTo_len (xs : List α) : ∀ j, (ddTo xs j).length ≤ j
  | 0 => Nat.le_refl _
  | j + 1 => by
    have := ddTo_len xs j
    unfold ddTo
    split
    · omega
    · rw [List.length_append]
      have : ((xs[j]?).toList).length ≤ 1 := by cases xs[j]? <;> simp
      omega
theorem ddTo_mem (xs : List α) : ∀ j, j ≤ xs.length → ∀ x, x ∈ ddTo xs j ↔ x ∈ xs.take j
  | 0, _, x => by simp [ddTo]
  | j + 1, hj, x => by
    have hj' : j < xs.length := by omega
    have ih := ddTo_mem xs j (by omega) x
    rw [List.take_succ_eq_append_getElem hj', List.mem_append, List.mem_singleton]
    unfold ddTo
    split
    · rename_i h
      rw [ih]
      refine ⟨.inl, fun h' => h'.elim id fun e => ?_⟩
      have h2 : j - 1 < xs.length := by omega
      rw [List.getElem?_eq_getElem hj', List.getElem?_eq_getElem h2] at h
      rw [e, Option.some.inj h.2]
      exact List.mem_iff_getElem.2 ⟨j - 1, by rw [List.length_take]; omega, by rw [List.getElem_take]⟩
    · rw [List.getElem?_eq_getElem hj', List.mem_append, ih]; simp
theorem ddTo_pw {lt : α → α → Bool} (ha : ∀ x y, lt x y = false → lt y x = false → x = y) {xs : List α} (hs : xs.Pairwise fun a b => lt b a = false) : ∀ j, j ≤ xs.length → (ddTo xs j).Pairwise fun a b => lt a b = true
  | 0, _ => by simp [ddTo]
  | j + 1, hj => by
    have hj' : j < xs.length := by omega
    have ih := ddTo_pw ha hs j (by omega)
    unfold ddTo
    split
    · exact ih
    · rename_i h
      rw [List.getElem?_eq_getElem hj']
      refine List.pairwise_append.2 ⟨ih, by simp, fun y hy z hz => ?_⟩
      simp at hz; subst hz
      rw [ddTo_mem xs j (by omega)] at hy
      obtain ⟨t, ht, rfl⟩ := List.mem_iff_getElem.1 hy
      rw [List.length_take] at ht
      rw [List.getElem_take]
      have hg := List.pairwise_iff_getElem.1 hs
      cases e : lt xs[t] xs[j] with
      | true => rfl
      | false =>
        have e1 := ha _ _ e (hg t j (by omega) hj' (by omega))
        have e2 : lt (xs[j - 1]'(by omega)) xs[j] = false := by
          by_cases ht1 : t = j - 1
          · simp only [← ht1]; exact e
          · have := hg t (j - 1) (by omega) (by omega) (by omega)
            rw [e1] at this; exact this
        have e3 := hg (j - 1) j (by omega) hj' (by omega)
        have e4 := ha _ _ e2 e3
        exact absurd ⟨by omega, by rw [List.getElem?_eq_getElem hj', List.getElem?_eq_getElem (show j - 1 < xs.length by omega), e4]⟩ h
/-- Into a rising row. -/
def putL (lt : α → α → Bool) (l : List α) (x : α) : List α := if x ∈ l then l else l.takeWhile (fun y => lt y x) ++ x :: l.dropWhile fun y => lt y x
def uniqL (lt : α → α → Bool) (zs : List α) : List α := zs.foldl (putL lt) []
theorem putL_mem {lt : α → α → Bool} {l : List α} {x y : α} : y ∈ putL lt l x ↔ y ∈ l ∨ y = x := by
  unfold putL
  split
  · rename_i h
    exact ⟨.inl, fun h' => h'.elim id fun e => e ▸ h⟩
  · conv => rhs; rw [← List.takeWhile_append_dropWhile (p := fun y => lt y x) (l := l)]
    simp only [List.mem_append, List.mem_cons]
    constructor
    · rintro (h | h | h)
      · exact .inl (.inl h)
      · exact .inr h
      · exact .inl (.inr h)
    · rintro ((h | h) | h)
      · exact .inl h
      · exact .inr (.inr h)
      · exact .inr (.inl h)
omit [DecidableEq α] in
theorem mem_dropWhile_not {lt : α → α → Bool} {x : α} (ht : ∀ x y z, lt x y = true → lt y z = true → lt x z = true) : ∀ {l : List α}, l.Pairwise (fun a b => lt a b = true) → ∀ y ∈ l.dropWhile (fun y => lt y x), lt y x = false
  | [], _, y, h => by simp at h
  | a :: l, hp, y, h => by
    obtain ⟨h1, h2⟩ := List.pairwise_cons.1 hp
    cases e : lt a x with
    | true =>
      rw [List.dropWhile_cons_of_pos (by exact e)] at h
      exact mem_dropWhile_not ht h2 y h
    | false =>
      rw [List.dropWhile_cons_of_neg (by rw [e]; decide)] at h
      rcases List.mem_cons.1 h with rfl | h
      · exact e
      · cases e' : lt y x with
        | false => rfl
        | true => rw [ht _ _ _ (h1 y h) e'] at e; cases e
omit [DecidableEq α] in
theorem mem_takeWhile_lt {lt : α → α → Bool} {x : α} : ∀ {l : List α}, ∀ y ∈ l.takeWhile (fun y => lt y x), lt y x = true
  | [], y, h => by simp at h
  | a :: l, y, h => by
    cases e : lt a x with
    | true =>
      rw [List.takeWhile_cons_of_pos (by exact e)] at h
      rcases List.mem_cons.1 h with rfl | h
      · exact e
      · exact mem_takeWhile_lt y h
    | false => rw [List.takeWhile_cons_of_neg (by rw [e]; decide)] at h; cases h
theorem putL_pw {lt : α → α → Bool} (ht : ∀ x y z, lt x y = true → lt y z = true → lt x z = true) (ha : ∀ x y, lt x y = false → lt y x = false → x = y) {l : List α} {x : α} (h : l.Pairwise fun a b => lt a b = true) : (putL lt l x).Pairwise fun a b => lt a b = true := by
  unfold putL
  split
  · exact h
  · rename_i hx
    have h2 := h
    rw [← List.takeWhile_append_dropWhile (p := fun y => lt y x) (l := l)] at h2
    obtain ⟨p1, p2, p3⟩ := List.pairwise_append.1 h2
    have hgt : ∀ y ∈ l.dropWhile (fun y => lt y x), lt x y = true := fun y hy => by
      cases e : lt x y with
      | true => rfl
      | false => exact absurd (ha _ _ e (mem_dropWhile_not ht h y hy)) fun e => hx (by rw [e]; exact (List.dropWhile_sublist _).subset hy)
    refine List.pairwise_append.2 ⟨p1, List.pairwise_cons.2 ⟨hgt, p2⟩, fun a ha' b hb => ?_⟩
    rcases List.mem_cons.1 hb with rfl | hb
    · exact mem_takeWhile_lt a ha'
    · exact p3 a ha' b hb
theorem uniqL_snoc {lt : α → α → Bool} {zs : List α} {x : α} : uniqL lt (zs ++ [x]) = putL lt (uniqL lt zs) x := by unfold uniqL; rw [List.foldl_append]; rfl
theorem foldl_put_mem {lt : α → α → Bool} : ∀ (zs l : List α) (y : α), y ∈ zs.foldl (putL lt) l ↔ y ∈ l ∨ y ∈ zs
  | [], l, y => by simp
  | z :: zs, l, y => by
    rw [List.foldl_cons, foldl_put_mem zs, putL_mem, List.mem_cons]
    constructor
    · rintro ((h | h) | h)
      · exact .inl h
      · exact .inr (.inl h)
      · exact .inr (.inr h)
    · rintro (h | h | h)
      · exact .inl (.inl h)
      · exact .inl (.inr h)
      · exact .inr h
theorem uniqL_mem {lt : α → α → Bool} {zs : List α} {y : α} : y ∈ uniqL lt zs ↔ y ∈ zs := by unfold uniqL; rw [foldl_put_mem]; simp
theorem foldl_put_pw {lt : α → α → Bool} (ht : ∀ x y z, lt x y = true → lt y z = true → lt x z = true) (ha : ∀ x y, lt x y = false → lt y x = false → x = y) : ∀ (zs l : List α), l.Pairwise (fun a b => lt a b = true) → (zs.foldl (putL lt) l).Pairwise fun a b => lt a b = true
  | [], _, h => h
  | z :: zs, l, h => by rw [List.foldl_cons]; exact foldl_put_pw ht ha zs _ (putL_pw ht ha h)
theorem uniqL_pw {lt : α → α → Bool} (ht : ∀ x y z, lt x y = true → lt y z = true → lt x z = true) (ha : ∀ x y, lt x y = false → lt y x = false → x = y) {zs : List α} : (uniqL lt zs).Pairwise fun a b => lt a b = true := foldl_put_pw ht ha zs [] List.Pairwise.nil
/-- Sorted, each once. -/
theorem dd_uniq {lt : α → α → Bool} (hi : ∀ x, lt x x = false) (ht : ∀ x y z, lt x y = true → lt y z = true → lt x z = true) (ha : ∀ x y, lt x y = false → lt y x = false → x = y) {ys zs : List α} (hp : ys.Perm zs) (hs : ys.Pairwise fun a b => lt b a = false) : ddTo ys ys.length = uniqL lt zs :=
  sorted_lt_mem hi ha ht (ddTo_pw ha hs _ (Nat.le_refl _)) (uniqL_pw ht ha) fun x => by rw [ddTo_mem ys _ (Nat.le_refl _), List.take_length, uniqL_mem, hp.mem_iff]
end
theorem rd_wrN_lt (b : Nat) : ∀ (l : List Value) (o : Nat) (H : Hp) (t : Nat), t < o → rd (wrN H b o l) b t = rd H b t
  | [], _, _, _, _ => rfl
  | v :: l, o, H, t, h => by rw [wrN, rd_wrN_lt b l (o + 1) _ t (by omega), rd_wr_off (by omega)]
/-! ### Lines' numbers, edges -/
structure Lid where
  p : Int
  n : Int
  deriving DecidableEq
structure Ed where
  a : Lid
  b : Lid
  deriving DecidableEq
def lidC (x : Lid) : List Value := [.int .u32 x.p, .int .i64 x.n]
def edC (x : Ed) : List Value := [.int .u32 x.a.p, .int .i64 x.a.n, .int .u32 x.b.p, .int .i64 x.b.n]
theorem lidC_len (x : Lid) : (lidC x).length = 2 := rfl
theorem edC_len (x : Ed) : (edC x).length = 4 := rfl
section
variable {H : Hp} {p : Option Addr} {l c : Nat}
theorem rsU {xs : List Int} (h : Sl fU H p l c xs) {k : Nat} {e : Int} (he : e = (k : Int)) (hk : k < xs.length) {F : Int → Prop} (hF : F xs[k]) : IDX e l fun k => NIL p fun b o => ldI .u32 (rd H b (o + k)) F := by
  have hl := h.len
  obtain ⟨b, o, rfl, hh⟩ := h.at hk
  exact idxN k he (by omega) (nil (ldI_i (hh k hk) hF))
theorem rsT {xs : List BL} (h : Sl sv H p l c xs) {k : Nat} {e : Int} (he : e = (k : Int)) (hk : k < xs.length) {F : ByteArray → Prop} (hF : F (mkB xs[k])) : IDX e l fun k => NIL p fun b o => ldS (rd H b (o + k)) F := by
  have hl := h.len
  obtain ⟨b, o, rfl, hh⟩ := h.at hk
  exact idxN k he (by omega) (nil (ldS_i (hh k hk) hF))
theorem rsL {xs : List Lid} (h : Sn 2 lidC H p l c xs) {k : Nat} {e : Int} (he : e = (k : Int)) (hk : k < xs.length) {F : Int → Int → Prop} (hF : F xs[k].p xs[k].n) : IDX e l fun k => NIL p fun b o => ldI .u32 (rd H b (o + (k * 2))) fun x => ldI .i64 (rd H b ((o + (k * 2)) + 1)) fun y => F x y := by
  have hl := h.len
  obtain ⟨b, o, rfl, hh⟩ := h.at hk
  exact idxN k he (by omega) (nil (ldI_i (hh k hk 0 _ rfl) (ldI_i (hh k hk 1 _ rfl) hF)))
theorem rsE {xs : List Ed} (h : Sn 4 edC H p l c xs) {k : Nat} {e : Int} (he : e = (k : Int)) (hk : k < xs.length) {F : Int → Int → Int → Int → Prop} (hF : F xs[k].a.p xs[k].a.n xs[k].b.p xs[k].b.n) : IDX e l fun k => NIL p fun b o => ldI .u32 (rd H b (o + (k * 4))) fun x => ldI .i64 (rd H b ((o + (k * 4)) + 1)) fun y => ldI .u32 (rd H b (((o + (k * 4)) + 1) + 1)) fun z => ldI .i64 (rd H b ((((o + (k * 4)) + 1) + 1) + 1)) fun w => F x y z w := by
  have hl := h.len
  obtain ⟨b, o, rfl, hh⟩ := h.at hk
  exact idxN k he (by omega) (nil (ldI_i (hh k hk 0 _ rfl) (ldI_i (hh k hk 1 _ rfl) (ldI_i (hh k hk 2 _ rfl) (ldI_i (hh k hk 3 _ rfl) hF)))))
end
theorem mkB_eq {x y : BL} (h : mkB x = mkB y) : x = y := congrArg L h
theorem eqId {α : Type} {x y : α} (h : x = y) : x = y := h
theorem neL {x y : Lid} {A B : Prop} (h : ¬ x = y → A) (h' : x = y → B) : bc (!(decide (x.p = y.p) && decide (x.n = y.n))) A B := by
  have e : (decide (x.p = y.p) && decide (x.n = y.n)) = decide (x = y) := by
    obtain ⟨a, b⟩ := x
    obtain ⟨c, d⟩ := y
    rw [Bool.eq_iff_iff]; simp
  rw [e]
  exact bcn (fun hh => h (of_decide_eq_false hh)) fun hh => h' (of_decide_eq_true hh)
theorem neE {x y : Ed} {A B : Prop} (h : ¬ x = y → A) (h' : x = y → B) : bc (!((decide (x.a.p = y.a.p) && decide (x.a.n = y.a.n)) && (decide (x.b.p = y.b.p) && decide (x.b.n = y.b.n)))) A B := by
  have e : ((decide (x.a.p = y.a.p) && decide (x.a.n = y.a.n)) && (decide (x.b.p = y.b.p) && decide (x.b.n = y.b.n))) = decide (x = y) := by
    obtain ⟨⟨a, b⟩, ⟨a', b'⟩⟩ := x
    obtain ⟨⟨c, d⟩, ⟨c', d'⟩⟩ := y
    rw [Bool.eq_iff_iff]; simp
  rw [e]
  exact bcn (fun hh => h (of_decide_eq_false hh)) fun hh => h' (of_decide_eq_true hh)
def edV (x : Ed) : Value := .agg ⟨edC x⟩
def lidV (x : Lid) : Value := .agg ⟨lidC x⟩
theorem bcdT {x y : BL} {A B : Prop} (h : ¬ x = y → A) (h' : x = y → B) : bc (decide (¬ mkB x = mkB y)) A B := bcd (fun hh => h fun e => hh (by rw [e])) fun hh => h' (mkB_eq (Classical.not_not.1 hh))
theorem bcdU {x y : Int} {A B : Prop} (h : ¬ x = y → A) (h' : x = y → B) : bc (decide (¬ x = y)) A B := bcd h fun hh => h' (Classical.not_not.1 hh)
section
variable {H : Hp} {p : Option Addr} {l cc : Nat} {xs : List Int}
theorem slices_IndexFunc_uint32_uint32.c {f : Value} {q : Int → Bool} {K : Int → Hp → Prop} (h : Sl fU H p l cc xs) (hl : l ≤ 1000000000) (hf : ∀ Hx x, x ∈ xs → ∀ K : Bool → Hp → Prop, Le H Hx → (∀ H', Le Hx H' → K (q x) H') → CallV prog f [.int .u32 x] Hx fun v H' => liftB v fun r => K r H')
    (hno : (∀ x ∈ xs, q x = false) → ∀ H', Le H H' → K (-1) H') (hyes : ∀ i (hi : i < xs.length), q xs[i] = true → (∀ j (hj : j < i), q (xs[j]'(by omega)) = false) → ∀ H', Le H H' → K (i : Nat) H') : slices_IndexFunc_uint32_uint32.C p l cc f H K := by
  apply slices_IndexFunc_uint32_uint32.of
  have el := h.len
  refine ⟨fun t Hx => ∃ i : Nat, t = (i : Nat) ∧ i ≤ l ∧ Le H Hx ∧ ∀ j (hj : j < xs.length), j < i → q xs[j] = false, fun t _ => ((l : Int) - t).toNat, ⟨0, rfl, Nat.zero_le _, Le.refl _, fun j _ h => absurd h (Nat.not_lt_zero _)⟩, ?_⟩
  rintro t Hx ⟨i, rfl, gi, lex, hj⟩
  refine bcd (fun hlt => ?_) fun hlt => hno (fun x hx => by
    obtain ⟨j, hj', rfl⟩ := List.mem_iff_getElem.1 hx
    exact hj j hj' (by omega)) Hx lex
  have hi : i < xs.length := by omega
  refine rsU (h.le lex) rfl hi (hf Hx _ (List.getElem_mem hi) _ lex fun H' le' => bc_i (fun hq => hyes i hi hq (fun j hj' => hj j (by omega) hj') H' (lex.trans le')) fun hq => ?_)
  refine chk (by omega) ⟨⟨i + 1, by omega, by omega, lex.trans le', fun j hj' hji => ?_⟩, by first | omega | (dsimp only; omega)⟩
  by_cases e : j = i
  · subst e; exact hq
  · exact hj j hj' (by omega)
theorem slices_ContainsFunc_uint32_uint32.c {f : Value} {q : Int → Bool} {K : Bool → Hp → Prop} (h : Sl fU H p l cc xs) (hl : l ≤ 1000000000) (hf : ∀ Hx x, x ∈ xs → ∀ K : Bool → Hp → Prop, Le H Hx → (∀ H', Le Hx H' → K (q x) H') → CallV prog f [.int .u32 x] Hx fun v H' => liftB v fun r => K r H')
    (hK : ∀ H', Le H H' → K (xs.any q) H') : slices_ContainsFunc_uint32_uint32.C p l cc f H K := by
  apply slices_ContainsFunc_uint32_uint32.of
  refine slices_IndexFunc_uint32_uint32.c h hl hf (fun hno H' le' => ?_) fun i hi hq _ H' le' => ?_
  · have e : xs.any q = false := by
      rw [List.any_eq_false]
      intro x hx; rw [hno x hx]; decide
    have := hK H' le'
    rw [e] at this; exact this
  · have e : xs.any q = true := List.any_eq_true.2 ⟨_, List.getElem_mem hi, hq⟩
    have := hK H' le'
    rw [e] at this
    rw [decide_eq_true (by omega)]; exact this
theorem slices_Index_uint32_uint32.c {v : Int} {K : Int → Hp → Prop} (h : Sl fU H p l cc xs) (hl : l ≤ 1000000000)
    (hno : v ∉ xs → K (-1) H) (hyes : ∀ i (hi : i < xs.length), xs[i] = v → K (i : Nat) H) : slices_Index_uint32_uint32.C p l cc ( v) H K := by
  apply slices_Index_uint32_uint32.of
  have el := h.len
  refine ⟨fun t Hx => ∃ i : Nat, t = (i : Nat) ∧ i ≤ l ∧ Hx = H ∧ ∀ j (hj : j < xs.length), j < i → xs[j] ≠ v, fun t _ => ((l : Int) - t).toNat, ⟨0, rfl, Nat.zero_le _, rfl, fun j _ h => absurd h (Nat.not_lt_zero _)⟩, ?_⟩
  rintro t Hx ⟨i, rfl, gi, rfl, hj⟩
  refine bcd (fun hlt => ?_) fun hlt => hno fun hx => by
    obtain ⟨j, hj', e⟩ := List.mem_iff_getElem.1 hx
    exact hj j hj' (by omega) e
  have hi : i < xs.length := by omega
  refine rsU h rfl hi (bcd (fun he => hyes i hi (eqId he).symm) fun he => ?_)
  refine chk (by omega) ⟨⟨i + 1, by omega, by omega, by trivial, fun j hj' hji => ?_⟩, by first | omega | (dsimp only; omega)⟩
  by_cases e : j = i
  · subst e; exact fun e => he (by rw [e])
  · exact hj j hj' (by omega)
theorem slices_Contains_uint32_uint32.c {v : Int} {K : Bool → Hp → Prop} (h : Sl fU H p l cc xs) (hl : l ≤ 1000000000) (hK : K (decide (v ∈ xs)) H) : slices_Contains_uint32_uint32.C p l cc ( v) H K := by
  apply slices_Contains_uint32_uint32.of
  refine slices_Index_uint32_uint32.c h hl (fun hno => ?_) fun i hi e => ?_
  · rw [decide_eq_false hno] at hK; exact hK
  · rw [decide_eq_true (by rw [← e]; exact List.getElem_mem hi)] at hK
    rw [decide_eq_true (by omega)]; exact hK
theorem slices_Equal_uint32_uint32.c {p2 : Option Addr} {l2 c2 : Nat} {ys : List Int} {K : Bool → Hp → Prop} (h : Sl fU H p l cc xs) (h2 : Sl fU H p2 l2 c2 ys) (hl : l ≤ 1000000000) (hK : K (decide (xs = ys)) H) : slices_Equal_uint32_uint32.C p l cc p2 l2 c2 H K := by
  apply slices_Equal_uint32_uint32.of
  have e1 := h.len
  have e2 := h2.len
  refine bcd (fun hne => ?_) fun hne => ?_
  · rw [decide_eq_false (fun e => by subst e; omega)] at hK; exact hK
  refine ⟨fun t Hx => ∃ i : Nat, t = (i : Nat) ∧ i ≤ l ∧ Hx = H ∧ xs.take i = ys.take i, fun t _ => ((l : Int) - t).toNat, ⟨0, rfl, Nat.zero_le _, rfl, rfl⟩, ?_⟩
  rintro t Hx ⟨i, rfl, gi, rfl, hj⟩
  refine bcd (fun hlt => ?_) fun hlt => ?_
  · have hi : i < xs.length := by omega
    have hi2 : i < ys.length := by omega
    refine rsU h rfl hi (rsU h2 rfl hi2 ?_)
    refine bcdU (fun he => ?_) fun he => ?_
    · rw [decide_eq_false (fun e => by subst e; exact he rfl)] at hK; exact hK
    · exact chk (by omega) ⟨⟨i + 1, by omega, by omega, by trivial, by rw [List.take_succ_eq_append_getElem hi, List.take_succ_eq_append_getElem hi2, hj, he]⟩, by first | omega | (dsimp only; omega)⟩
  · rw [List.take_of_length_le (by omega), List.take_of_length_le (by omega)] at hj
    rw [decide_eq_true hj] at hK; exact hK
end
section
variable {H : Hp} {p : Option Addr} {l cc : Nat} {xs : List Int}
theorem slices_Sort_uint32_uint32.c {K : Hp → Prop} (h : Sl fU H p l cc xs) (hl : l ≤ 1000000000) (hK : ∀ H' ys, Sl fU H' p l cc ys → ys.Perm xs → ys.Pairwise (fun a b => Sort.ltInt b a = false) → Mod (blkL p) H H' → K H') : slices_Sort_uint32_uint32.C p l cc H K := by
  apply slices_Sort_uint32_uint32.of
  have el := h.len
  unfold slices_Sort_uint32_uint32.F
  rw [wrapU l (by omega)]
  refine math_bits_Len.c (by omega) ?_
  have hb := bitsLen_le64 (n := l) (by omega)
  have hA := A1.ofSl h
  have hs : xs.toArray.size = l := by simp [el]
  refine slices_pdqsortOrdered_uint32.c (a := 0) (b := l) l (Nat.le_refl _) hA (Nat.zero_le _) (by omega) (by omega) (by omega) (.inl rfl) hl fun H' d' h' m' hP hS => ?_
  rw [← hs] at hP hS
  rw [← hP.1] at hS
  have hp := permIn_perm hP
  exact hK H' d'.toList (h'.toSl h.2.1) (by simpa using hp) (sortedIn_pw hS) m'
theorem slices_DeleteFunc_uint32_uint32.c {f : Value} {q : Int → Bool} {K : Option Addr → Nat → Nat → Hp → Prop} (h : Sl fU H p l cc xs) (hl : l ≤ 1000000000) (hpt : PtOk p) (hf : ∀ Hx x, x ∈ xs → ∀ K : Bool → Hp → Prop, Mod (blkL p) H Hx → (∀ H', Le Hx H' → K (q x) H') → CallV prog f [.int .u32 x] Hx fun v H' => liftB v fun r => K r H')
    (hK : ∀ l' H', Sl fU H' p l' cc (xs.filter fun x => !q x) → Mod (blkL p) H H' → K p l' cc H') : slices_DeleteFunc_uint32_uint32.C p l cc f H K := by
  apply slices_DeleteFunc_uint32_uint32.of
  have el := h.len
  refine slices_IndexFunc_uint32_uint32.c h hl (fun Hx x hx K le' => hf Hx x hx K le'.mod) (fun hno H' le' => ?_) fun i hi hq hb H1 le1 => ?_
  · refine bcd (fun _ => ?_) fun h => absurd rfl h
    refine hK l H' ?_ le'.mod
    rw [List.filter_eq_self.2 fun x hx => by rw [hno x hx]; rfl]
    exact h.le le'
  refine bcd (fun h => absurd h (by omega)) fun _ => chk (by omega) ?_
  obtain ⟨b, o, rfl, hr⟩ := (h.le le1).at hi
  have keep0 : (xs.take (i + 1)).filter (fun x => !q x) = xs.take i := by
    rw [List.take_succ_eq_append_getElem hi, List.filter_append, List.filter_cons_of_neg (by rw [hq]; decide), List.filter_nil, List.append_nil, List.filter_eq_self]
    intro x hx
    obtain ⟨j, hj, rfl⟩ := List.mem_iff_getElem.1 hx
    rw [List.length_take] at hj
    rw [List.getElem_take, hb j (by omega)]; rfl
  refine ⟨fun t u Hx => ∃ m n : Nat, t = (m : Nat) ∧ u = (n : Nat) ∧ m < n ∧ n ≤ l ∧ Mod [b] H Hx ∧ m = ((xs.take n).filter fun x => !q x).length ∧ (∀ s (hs : s < ((xs.take n).filter fun x => !q x).length), rd Hx b (o + s) = some (fU ((xs.take n).filter fun x => !q x)[s])) ∧ (∀ s (hs : s < xs.length), n ≤ s → rd Hx b (o + s) = some (fU xs[s])) ∧ ∀ s, s < l → ∃ v, rd Hx b (o + s) = some v, fun _ u _ => ((l : Int) - u).toNat,
    ⟨i, i + 1, rfl, by omega, by omega, by omega, le1.mod, by rw [keep0, List.length_take]; omega, fun s hs => by
      simp only [keep0] at hs ⊢
      rw [List.length_take] at hs
      rw [List.getElem_take]; exact hr s (by omega), fun s hs _ => hr s hs, fun s hs => ⟨_, hr s (by omega)⟩⟩, ?_⟩
  rintro t u Hx ⟨m, n, rfl, rfl, hmn, hn, m1, hm, c1, c2, c3⟩
  refine bcd (fun hlt => ?_) fun hlt => ?_
  · have hnx : n < xs.length := by omega
    have ht := List.take_succ_eq_append_getElem hnx
    refine idxN n rfl (by omega) (nil (ldI_i (c2 n hnx (Nat.le_refl _)) (hf Hx _ (List.getElem_mem hnx) _ m1 fun H2 le2 => ?_)))
    have m2 : Mod [b] H H2 := m1.andLe le2
    refine bcn (fun hq' => ?_) fun hq' => ?_
    · obtain ⟨v, hv⟩ := c3 m (by omega)
      have hv2 := le2.rd hv
      have hkf : (xs.take (n + 1)).filter (fun x => !q x) = (xs.take n).filter (fun x => !q x) ++ [xs[n]] := by rw [ht, List.filter_append, List.filter_cons_of_pos (by rw [hq']; rfl)]; rfl
      refine idxN m rfl (by omega) (nil (st hv2 (chk (by omega) (chk (by omega) ⟨⟨m + 1, n + 1, by omega, by omega, by omega, by omega, m2.wr (.inl (by simp)), by rw [hkf, List.length_append, ← hm]; rfl, fun s hs => ?_, fun s hs hns => ?_, fun s hs => ?_⟩, by first | omega | (dsimp only; omega)⟩))))
      · simp only [hkf] at hs ⊢
        rw [List.length_append, ← hm] at hs
        rw [rd_wr hv2 rfl, if_pos rfl]
        by_cases e : s = m
        · subst e
          rw [if_pos rfl, List.getElem_append_right (by omega)]
          simp [hm]
        · simp at hs
          rw [if_neg (by omega), List.getElem_append_left (by omega)]
          exact le2.rd (c1 s (by omega))
      · rw [rd_wr hv2 rfl, if_pos rfl, if_neg (by omega)]
        exact le2.rd (c2 s hs (by omega))
      · rw [rd_wr hv2 rfl, if_pos rfl]
        split
        · exact ⟨_, rfl⟩
        · obtain ⟨v', hv'⟩ := c3 s hs
          exact ⟨v', le2.rd hv'⟩
    · have hkf : (xs.take (n + 1)).filter (fun x => !q x) = (xs.take n).filter (fun x => !q x) := by rw [ht, List.filter_append, List.filter_cons_of_neg (by rw [hq']; decide), List.filter_nil, List.append_nil]
      refine chk (by omega) ⟨⟨m, n + 1, rfl, by omega, by omega, by omega, m2, by rw [hkf]; exact hm, fun s hs => ?_, fun s hs hns => le2.rd (c2 s hs (by omega)), fun s hs => ?_⟩, by first | omega | (dsimp only; omega)⟩
      · simp only [hkf] at hs ⊢
        exact le2.rd (c1 s hs)
      · obtain ⟨v', hv'⟩ := c3 s hs
        exact ⟨v', le2.rd hv'⟩
  · have : n = xs.length := by omega
    subst this
    rw [List.take_length] at hm
    simp only [List.take_length] at c1
    have hcap := h.2.1
    refine bnd10 m rfl (by omega) ?_
    have hmv : movA (some ⟨b, o, none⟩) m 1 cc = some ⟨b, o + m, none⟩ := by
      unfold movA; simp only; rw [if_neg (by omega)]; simp [mulS]
    rw [hmv]
    refine ⟨fun s hs => ?_, fun v hv => List.all_eq_true.1 (rep_all (by rfl)) v hv, ?_⟩
    · rw [rep_len] at hs
      obtain ⟨v, hv⟩ := c3 (m + s) (by simp [te_uint32] at hs; omega)
      rw [Nat.add_assoc, hv]; rfl
    · refine bnd01 m rfl (by omega) ?_
      have hm0 : movA (some ⟨b, o, none⟩) 0 1 cc = some ⟨b, o, none⟩ := by unfold movA; simp only; split <;> simp [mulS]
      rw [hm0]
      refine hK (m - 0) _ ⟨by omega, by omega, .inr ⟨b, o, rfl, fun s hs => ?_⟩⟩ fun x hx c' e => ?_
      · rw [rd_wrN_lt b _ _ _ _ (by omega)]; exact c1 s hs
      · rw [rd_wrN_ne b _ _ _ x (fun e' => hx (by rw [e']; simp [blkL]))]
        exact m1 x (by simpa [blkL] using hx) c' e
theorem slices_Compact_uint32_uint32.c {K : Option Addr → Nat → Nat → Hp → Prop} (h : Sl fU H p l cc xs) (hl : l ≤ 1000000000) (hK : ∀ l' H', Sl fU H' p l' cc (ddTo xs xs.length) → Mod (blkL p) H H' → K p l' cc H') : slices_Compact_uint32_uint32.C p l cc H K := by
  apply slices_Compact_uint32_uint32.of
  have el := h.len
  have hat : ∀ j (hj : j < xs.length), xs[j]? = some xs[j] := fun j hj => List.getElem?_eq_getElem hj
  refine bcd (fun h2 => ?_) fun h2 => ?_
  · refine hK l H ?_ Mod.refl
    have : ddTo xs xs.length = xs := by
      match xs, el with
      | [], _ => rfl
      | [a], _ => simp [ddTo]
      | _ :: _ :: _, el => simp at el; omega
    rw [this]; exact h
  refine ⟨fun t Hx => ∃ k : Nat, t = (k : Nat) ∧ 1 ≤ k ∧ k ≤ l ∧ Hx = H ∧ ddTo xs k = xs.take k, fun t _ => ((l : Int) - t).toNat, ⟨1, rfl, Nat.le_refl _, by omega, rfl, ?_⟩, ?_⟩
  · have : 0 < xs.length := by omega
    simp [ddTo, hat 0 this, List.take_one, List.head?_eq_getElem?]
  rintro t Hx ⟨k, rfl, g1, g2, rfl, hd⟩
  refine bcd (fun hlt => ?_) fun hlt => ?_
  · have hk : k < xs.length := by omega
    refine rsU h rfl hk (chk (by omega) (rsU h (k := k - 1) (by omega) (by omega) ?_))
    refine bcd (fun he => ?_) fun he => ?_
    · have he := eqId he
      refine bnd10 k rfl (by omega) ?_
      obtain ⟨b, o, rfl, hr⟩ := h.at hk
      have hcap := h.2.1
      have hmv : movA (some ⟨b, o, none⟩) k 1 cc = some ⟨b, o + k, none⟩ := by
        unfold movA; simp only; rw [if_neg (by omega)]; simp [mulS]
      rw [hmv]
      have hd1 : ddTo xs (k + 1) = xs.take k := by
        unfold ddTo
        rw [if_pos ⟨by omega, by rw [hat k hk, hat (k - 1) (by omega), he]⟩, hd]
      refine ⟨fun t u Hy => ∃ m n : Nat, t = (m : Nat) ∧ u = (n : Nat) ∧ 1 ≤ n ∧ k + n ≤ l ∧ m < k + n ∧ Mod [b] Hx Hy ∧ m = (ddTo xs (k + n)).length ∧ (∀ s (hs : s < (ddTo xs (k + n)).length), rd Hy b (o + s) = some (fU (ddTo xs (k + n))[s])) ∧ (∀ s (hs : s < xs.length), k + n ≤ s + 1 → rd Hy b (o + s) = some (fU xs[s])) ∧ ∀ s, s < l → ∃ v, rd Hy b (o + s) = some v, fun _ u _ => ((l : Int) - k - u).toNat,
        ⟨k, 1, rfl, rfl, Nat.le_refl _, by omega, by omega, Mod.refl, by rw [hd1, List.length_take]; omega, fun s hs => by
          simp only [hd1] at hs ⊢
          rw [List.length_take] at hs
          rw [List.getElem_take]; exact hr s (by omega), fun s hs _ => hr s hs, fun s hs => ⟨_, hr s (by omega)⟩⟩, ?_⟩
      rintro t u Hy ⟨m, n, rfl, rfl, n1, hn, hmn, m1, hm, c1, c2, c3⟩
      refine bcd (fun hlt' => ?_) fun hlt' => ?_
      · have hnx : k + n < xs.length := by omega
        have hnx1 : k + n - 1 < xs.length := by omega
        have r1 : rd Hy b (o + k + n) = some (fU xs[k + n]) := by rw [Nat.add_assoc]; exact c2 _ hnx (by omega)
        have r2 : rd Hy b (o + k + (n - 1)) = some (fU xs[k + n - 1]) := by rw [show o + k + (n - 1) = o + (k + n - 1) by omega]; exact c2 _ hnx1 (by omega)
        refine idxN n rfl (by omega) (nil (ldI_i r1 (chk (by omega) (idxN (n - 1) (by omega) (by omega) (nil (ldI_i r2 ?_))))))
        refine bcd (fun hne => ?_) fun heq => ?_
        · have hdd : ddTo xs (k + n + 1) = ddTo xs (k + n) ++ [xs[k + n]] := by
            rw [ddTo, if_neg, hat _ hnx]
            · rfl
            · rintro ⟨_, e⟩
              rw [hat _ hnx, hat _ hnx1] at e
              exact hne (by rw [Option.some.inj e])
          obtain ⟨v, hv⟩ := c3 m (by omega)
          refine idxN n rfl (by omega) (nil (ldI_i r1 (idxN m rfl (by omega) (nil (st hv (chk (by omega) (chk (by omega) ⟨⟨m + 1, n + 1, by omega, by omega, by omega, by omega, by omega, m1.wr (.inl (by simp)), by rw [← Nat.add_assoc, hdd, List.length_append, ← hm]; rfl, fun s hs => ?_, fun s hs hns => ?_, fun s hs => ?_⟩, by first | omega | (dsimp only; omega)⟩)))))))
          · have e1 : k + (n + 1) = k + n + 1 := by omega
            simp only [e1, hdd] at hs ⊢
            rw [List.length_append, ← hm] at hs
            rw [rd_wr hv rfl, if_pos rfl]
            by_cases e : s = m
            · subst e
              rw [if_pos rfl, List.getElem_append_right (by omega)]
              first | (simp [hm]; done) | (simp [hm]; rfl)
            · simp at hs
              rw [if_neg (by omega), List.getElem_append_left (by omega)]
              exact c1 s (by omega)
          · have := ddTo_len xs (k + n)
            rw [rd_wr hv rfl, if_pos rfl, if_neg (by omega)]
            exact c2 s hs (by omega)
          · rw [rd_wr hv rfl, if_pos rfl]
            split
            · exact ⟨_, rfl⟩
            · exact c3 s hs
        · have heq := eqId (Classical.not_not.1 heq)
          have hdd : ddTo xs (k + n + 1) = ddTo xs (k + n) := by
            rw [ddTo, if_pos ⟨by omega, by rw [hat _ hnx, hat _ hnx1, heq]⟩]
          refine chk (by omega) ⟨⟨m, n + 1, rfl, by omega, by omega, by omega, by omega, m1, by rw [← Nat.add_assoc, hdd]; exact hm, fun s hs => ?_, fun s hs hns => c2 s hs (by omega), c3⟩, by first | omega | (dsimp only; omega)⟩
          have e1 : k + (n + 1) = k + n + 1 := by omega
          simp only [e1, hdd] at hs ⊢
          exact c1 s hs
      · have e1 : k + n = xs.length := by omega
        rw [e1] at hm
        simp only [e1] at c1
        refine bnd10 m rfl (by omega) ?_
        have hmv2 : movA (some ⟨b, o, none⟩) m 1 cc = some ⟨b, o + m, none⟩ := by
          unfold movA; simp only; rw [if_neg (by omega)]; simp [mulS]
        rw [hmv2]
        refine ⟨fun s hs => ?_, fun v hv => List.all_eq_true.1 (rep_all (by rfl)) v hv, ?_⟩
        · rw [rep_len] at hs
          obtain ⟨v, hv⟩ := c3 (m + s) (by simp [te_uint32] at hs; omega)
          rw [Nat.add_assoc, hv]; rfl
        · refine bnd01 m rfl (by omega) ?_
          have hm0 : movA (some ⟨b, o, none⟩) 0 1 cc = some ⟨b, o, none⟩ := by unfold movA; simp only; split <;> simp [mulS]
          rw [hm0]
          refine hK (m - 0) _ ⟨by omega, by omega, .inr ⟨b, o, rfl, fun s hs => ?_⟩⟩ fun x hx c' e => ?_
          · rw [rd_wrN_lt b _ _ _ _ (by omega)]; exact c1 s hs
          · rw [rd_wrN_ne b _ _ _ x (fun e' => hx (by rw [e']; simp [blkL]))]
            exact m1 x (by simpa [blkL] using hx) c' e
    · refine chk (by omega) ⟨⟨k + 1, by omega, by omega, by omega, by trivial, ?_⟩, by first | omega | (dsimp only; omega)⟩
      rw [ddTo, if_neg, hd, hat k hk, List.take_succ_eq_append_getElem hk]
      · rfl
      · rintro ⟨_, e⟩
        rw [hat k hk, hat (k - 1) (by omega)] at e
        exact he (by rw [Option.some.inj e])
  · refine hK l Hx ?_ Mod.refl
    have : k = xs.length := by omega
    subst this
    rw [hd, List.take_length]; exact h
end
section
variable {H : Hp} {p : Option Addr} {l cc : Nat} {xs : List BL}
theorem slices_IndexFunc_string_string.c {f : Value} {q : BL → Bool} {K : Int → Hp → Prop} (h : Sl sv H p l cc xs) (hl : l ≤ 1000000000) (hf : ∀ Hx x, x ∈ xs → ∀ K : Bool → Hp → Prop, Le H Hx → (∀ H', Le Hx H' → K (q x) H') → CallV prog f [sv x] Hx fun v H' => liftB v fun r => K r H')
    (hno : (∀ x ∈ xs, q x = false) → ∀ H', Le H H' → K (-1) H') (hyes : ∀ i (hi : i < xs.length), q xs[i] = true → (∀ j (hj : j < i), q (xs[j]'(by omega)) = false) → ∀ H', Le H H' → K (i : Nat) H') : slices_IndexFunc_string_string.C p l cc f H K := by
  apply slices_IndexFunc_string_string.of
  have el := h.len
  refine ⟨fun t Hx => ∃ i : Nat, t = (i : Nat) ∧ i ≤ l ∧ Le H Hx ∧ ∀ j (hj : j < xs.length), j < i → q xs[j] = false, fun t _ => ((l : Int) - t).toNat, ⟨0, rfl, Nat.zero_le _, Le.refl _, fun j _ h => absurd h (Nat.not_lt_zero _)⟩, ?_⟩
  rintro t Hx ⟨i, rfl, gi, lex, hj⟩
  refine bcd (fun hlt => ?_) fun hlt => hno (fun x hx => by
    obtain ⟨j, hj', rfl⟩ := List.mem_iff_getElem.1 hx
    exact hj j hj' (by omega)) Hx lex
  have hi : i < xs.length := by omega
  refine rsT (h.le lex) rfl hi (hf Hx _ (List.getElem_mem hi) _ lex fun H' le' => bc_i (fun hq => hyes i hi hq (fun j hj' => hj j (by omega) hj') H' (lex.trans le')) fun hq => ?_)
  refine chk (by omega) ⟨⟨i + 1, by omega, by omega, lex.trans le', fun j hj' hji => ?_⟩, by first | omega | (dsimp only; omega)⟩
  by_cases e : j = i
  · subst e; exact hq
  · exact hj j hj' (by omega)
theorem slices_ContainsFunc_string_string.c {f : Value} {q : BL → Bool} {K : Bool → Hp → Prop} (h : Sl sv H p l cc xs) (hl : l ≤ 1000000000) (hf : ∀ Hx x, x ∈ xs → ∀ K : Bool → Hp → Prop, Le H Hx → (∀ H', Le Hx H' → K (q x) H') → CallV prog f [sv x] Hx fun v H' => liftB v fun r => K r H')
    (hK : ∀ H', Le H H' → K (xs.any q) H') : slices_ContainsFunc_string_string.C p l cc f H K := by
  apply slices_ContainsFunc_string_string.of
  refine slices_IndexFunc_string_string.c h hl hf (fun hno H' le' => ?_) fun i hi hq _ H' le' => ?_
  · have e : xs.any q = false := by
      rw [List.any_eq_false]
      intro x hx; rw [hno x hx]; decide
    have := hK H' le'
    rw [e] at this; exact this
  · have e : xs.any q = true := List.any_eq_true.2 ⟨_, List.getElem_mem hi, hq⟩
    have := hK H' le'
    rw [e] at this
    rw [decide_eq_true (by omega)]; exact this
theorem slices_Index_string_string.c {v : BL} {K : Int → Hp → Prop} (h : Sl sv H p l cc xs) (hl : l ≤ 1000000000)
    (hno : v ∉ xs → K (-1) H) (hyes : ∀ i (hi : i < xs.length), xs[i] = v → K (i : Nat) H) : slices_Index_string_string.C p l cc (mkB v) H K := by
  apply slices_Index_string_string.of
  have el := h.len
  refine ⟨fun t Hx => ∃ i : Nat, t = (i : Nat) ∧ i ≤ l ∧ Hx = H ∧ ∀ j (hj : j < xs.length), j < i → xs[j] ≠ v, fun t _ => ((l : Int) - t).toNat, ⟨0, rfl, Nat.zero_le _, rfl, fun j _ h => absurd h (Nat.not_lt_zero _)⟩, ?_⟩
  rintro t Hx ⟨i, rfl, gi, rfl, hj⟩
  refine bcd (fun hlt => ?_) fun hlt => hno fun hx => by
    obtain ⟨j, hj', e⟩ := List.mem_iff_getElem.1 hx
    exact hj j hj' (by omega) e
  have hi : i < xs.length := by omega
  refine rsT h rfl hi (bcd (fun he => hyes i hi (mkB_eq he).symm) fun he => ?_)
  refine chk (by omega) ⟨⟨i + 1, by omega, by omega, by trivial, fun j hj' hji => ?_⟩, by first | omega | (dsimp only; omega)⟩
  by_cases e : j = i
  · subst e; exact fun e => he (by rw [e])
  · exact hj j hj' (by omega)
theorem slices_Contains_string_string.c {v : BL} {K : Bool → Hp → Prop} (h : Sl sv H p l cc xs) (hl : l ≤ 1000000000) (hK : K (decide (v ∈ xs)) H) : slices_Contains_string_string.C p l cc (mkB v) H K := by
  apply slices_Contains_string_string.of
  refine slices_Index_string_string.c h hl (fun hno => ?_) fun i hi e => ?_
  · rw [decide_eq_false hno] at hK; exact hK
  · rw [decide_eq_true (by rw [← e]; exact List.getElem_mem hi)] at hK
    rw [decide_eq_true (by omega)]; exact hK
theorem slices_Equal_string_string.c {p2 : Option Addr} {l2 c2 : Nat} {ys : List BL} {K : Bool → Hp → Prop} (h : Sl sv H p l cc xs) (h2 : Sl sv H p2 l2 c2 ys) (hl : l ≤ 1000000000) (hK : K (decide (xs = ys)) H) : slices_Equal_string_string.C p l cc p2 l2 c2 H K := by
  apply slices_Equal_string_string.of
  have e1 := h.len
  have e2 := h2.len
  refine bcd (fun hne => ?_) fun hne => ?_
  · rw [decide_eq_false (fun e => by subst e; omega)] at hK; exact hK
  refine ⟨fun t Hx => ∃ i : Nat, t = (i : Nat) ∧ i ≤ l ∧ Hx = H ∧ xs.take i = ys.take i, fun t _ => ((l : Int) - t).toNat, ⟨0, rfl, Nat.zero_le _, rfl, rfl⟩, ?_⟩
  rintro t Hx ⟨i, rfl, gi, rfl, hj⟩
  refine bcd (fun hlt => ?_) fun hlt => ?_
  · have hi : i < xs.length := by omega
    have hi2 : i < ys.length := by omega
    refine rsT h rfl hi (rsT h2 rfl hi2 ?_)
    refine bcdT (fun he => ?_) fun he => ?_
    · rw [decide_eq_false (fun e => by subst e; exact he rfl)] at hK; exact hK
    · exact chk (by omega) ⟨⟨i + 1, by omega, by omega, by trivial, by rw [List.take_succ_eq_append_getElem hi, List.take_succ_eq_append_getElem hi2, hj, he]⟩, by first | omega | (dsimp only; omega)⟩
  · rw [List.take_of_length_le (by omega), List.take_of_length_le (by omega)] at hj
    rw [decide_eq_true hj] at hK; exact hK
end
section
variable {H : Hp} {p : Option Addr} {l cc : Nat} {xs : List BL}
end
section
variable {H : Hp} {p : Option Addr} {l cc : Nat} {xs : List Ed}
theorem slices_Equal_api_Edge_api_Edge.c {p2 : Option Addr} {l2 c2 : Nat} {ys : List Ed} {K : Bool → Hp → Prop} (h : Sn 4 edC H p l cc xs) (h2 : Sn 4 edC H p2 l2 c2 ys) (hl : l ≤ 1000000000) (hK : K (decide (xs = ys)) H) : slices_Equal_api_Edge_api_Edge.C p l cc p2 l2 c2 H K := by
  apply slices_Equal_api_Edge_api_Edge.of
  have e1 := h.len
  have e2 := h2.len
  refine bcd (fun hne => ?_) fun hne => ?_
  · rw [decide_eq_false (fun e => by subst e; omega)] at hK; exact hK
  refine ⟨fun t Hx => ∃ i : Nat, t = (i : Nat) ∧ i ≤ l ∧ Hx = H ∧ xs.take i = ys.take i, fun t _ => ((l : Int) - t).toNat, ⟨0, rfl, Nat.zero_le _, rfl, rfl⟩, ?_⟩
  rintro t Hx ⟨i, rfl, gi, rfl, hj⟩
  refine bcd (fun hlt => ?_) fun hlt => ?_
  · have hi : i < xs.length := by omega
    have hi2 : i < ys.length := by omega
    refine rsE h rfl hi (rsE h2 rfl hi2 ?_)
    refine neE (fun he => ?_) fun he => ?_
    · rw [decide_eq_false (fun e => by subst e; exact he rfl)] at hK; exact hK
    · exact chk (by omega) ⟨⟨i + 1, by omega, by omega, by trivial, by rw [List.take_succ_eq_append_getElem hi, List.take_succ_eq_append_getElem hi2, hj, he]⟩, by first | omega | (dsimp only; omega)⟩
  · rw [List.take_of_length_le (by omega), List.take_of_length_le (by omega)] at hj
    rw [decide_eq_true hj] at hK; exact hK
end
section
variable {H : Hp} {p : Option Addr} {l cc : Nat} {xs : List Lid}
theorem slices_Equal_api_LineID_api_LineID.c {p2 : Option Addr} {l2 c2 : Nat} {ys : List Lid} {K : Bool → Hp → Prop} (h : Sn 2 lidC H p l cc xs) (h2 : Sn 2 lidC H p2 l2 c2 ys) (hl : l ≤ 1000000000) (hK : K (decide (xs = ys)) H) : slices_Equal_api_LineID_api_LineID.C p l cc p2 l2 c2 H K := by
  apply slices_Equal_api_LineID_api_LineID.of
  have e1 := h.len
  have e2 := h2.len
  refine bcd (fun hne => ?_) fun hne => ?_
  · rw [decide_eq_false (fun e => by subst e; omega)] at hK; exact hK
  refine ⟨fun t Hx => ∃ i : Nat, t = (i : Nat) ∧ i ≤ l ∧ Hx = H ∧ xs.take i = ys.take i, fun t _ => ((l : Int) - t).toNat, ⟨0, rfl, Nat.zero_le _, rfl, rfl⟩, ?_⟩
  rintro t Hx ⟨i, rfl, gi, rfl, hj⟩
  refine bcd (fun hlt => ?_) fun hlt => ?_
  · have hi : i < xs.length := by omega
    have hi2 : i < ys.length := by omega
    refine rsL h rfl hi (rsL h2 rfl hi2 ?_)
    refine neL (fun he => ?_) fun he => ?_
    · rw [decide_eq_false (fun e => by subst e; exact he rfl)] at hK; exact hK
    · exact chk (by omega) ⟨⟨i + 1, by omega, by omega, by trivial, by rw [List.take_succ_eq_append_getElem hi, List.take_succ_eq_append_getElem hi2, hj, he]⟩, by first | omega | (dsimp only; omega)⟩
  · rw [List.take_of_length_le (by omega), List.take_of_length_le (by omega)] at hj
    rw [decide_eq_true hj] at hK; exact hK
end
section
variable {H : Hp} {p : Option Addr} {l cc : Nat} {xs : List Int}
theorem patch_rises_uint32.c {f : Value} {lt : Int → Int → Bool} {K : Bool → Hp → Prop} (h : Sl fU H p l cc xs) (hl : l ≤ 1000000000) (hf : ∀ Hx x y (K : Int → Hp → Prop), Le H Hx → (∀ H', Le Hx H' → K (cmp3 lt x y) H') → CallV prog f [.int .u32 x, .int .u32 y] Hx fun v H' => liftI .i64 v fun r => K r H')
    (hK : ∀ H', Le H H' → K (rsB lt xs) H') : patch_rises_uint32.C p l cc f H K := by
  apply patch_rises_uint32.of
  have el := h.len
  refine ⟨fun t Hx => ∃ i : Nat, t = (i : Nat) ∧ 1 ≤ i ∧ (i ≤ l ∨ i = 1) ∧ Le H Hx ∧ rsB lt (xs.take i) = true, fun t _ => ((l : Int) - t).toNat, ⟨1, rfl, Nat.le_refl _, .inr rfl, Le.refl _, rsB_one (by simp; omega)⟩, ?_⟩
  rintro t Hx ⟨i, rfl, g1, g2, lex, hr⟩
  refine bcd (fun hlt => ?_) fun hlt => ?_
  · have hi : i < xs.length := by omega
    refine chk (by omega) (rsU (h.le lex) (k := i - 1) (by omega) (by omega) (rsU (h.le lex) rfl hi (hf Hx _ _ _ lex fun H' le' => bcd (fun hge => ?_) fun hge => ?_)))
    · have : rsB lt xs = false := rsB_bad hi g1 (cmp3_ge hge)
      have hK := hK H' (lex.trans le')
      rw [this] at hK; exact hK
    · exact chk (by omega) ⟨⟨i + 1, by omega, by omega, .inl (by omega), lex.trans le', rsB_next hi g1 hr (cmp3_lt (by omega))⟩, by first | omega | (dsimp only; omega)⟩
  · have hK := hK Hx lex
    rw [List.take_of_length_le (by omega)] at hr
    rw [hr] at hK; exact hK
end
section
variable {H : Hp} {p : Option Addr} {l cc : Nat} {xs : List BL}
theorem patch_rises_string.c {f : Value} {lt : BL → BL → Bool} {K : Bool → Hp → Prop} (h : Sl sv H p l cc xs) (hl : l ≤ 1000000000) (hf : ∀ Hx x y (K : Int → Hp → Prop), Le H Hx → (∀ H', Le Hx H' → K (cmp3 lt x y) H') → CallV prog f [sv x, sv y] Hx fun v H' => liftI .i64 v fun r => K r H')
    (hK : ∀ H', Le H H' → K (rsB lt xs) H') : patch_rises_string.C p l cc f H K := by
  apply patch_rises_string.of
  have el := h.len
  refine ⟨fun t Hx => ∃ i : Nat, t = (i : Nat) ∧ 1 ≤ i ∧ (i ≤ l ∨ i = 1) ∧ Le H Hx ∧ rsB lt (xs.take i) = true, fun t _ => ((l : Int) - t).toNat, ⟨1, rfl, Nat.le_refl _, .inr rfl, Le.refl _, rsB_one (by simp; omega)⟩, ?_⟩
  rintro t Hx ⟨i, rfl, g1, g2, lex, hr⟩
  refine bcd (fun hlt => ?_) fun hlt => ?_
  · have hi : i < xs.length := by omega
    refine chk (by omega) (rsT (h.le lex) (k := i - 1) (by omega) (by omega) (rsT (h.le lex) rfl hi (hf Hx _ _ _ lex fun H' le' => bcd (fun hge => ?_) fun hge => ?_)))
    · have : rsB lt xs = false := rsB_bad hi g1 (cmp3_ge hge)
      have hK := hK H' (lex.trans le')
      rw [this] at hK; exact hK
    · exact chk (by omega) ⟨⟨i + 1, by omega, by omega, .inl (by omega), lex.trans le', rsB_next hi g1 hr (cmp3_lt (by omega))⟩, by first | omega | (dsimp only; omega)⟩
  · have hK := hK Hx lex
    rw [List.take_of_length_le (by omega)] at hr
    rw [hr] at hK; exact hK
end
section
variable {H : Hp} {p : Option Addr} {l cc : Nat} {xs : List Ed}
theorem patch_rises_api_Edge.c {f : Value} {lt : Ed → Ed → Bool} {K : Bool → Hp → Prop} (h : Sn 4 edC H p l cc xs) (hl : l ≤ 1000000000) (hf : ∀ Hx x y (K : Int → Hp → Prop), Le H Hx → (∀ H', Le Hx H' → K (cmp3 lt x y) H') → CallV prog f [edV x, edV y] Hx fun v H' => liftI .i64 v fun r => K r H')
    (hK : ∀ H', Le H H' → K (rsB lt xs) H') : patch_rises_api_Edge.C p l cc f H K := by
  apply patch_rises_api_Edge.of
  have el := h.len
  refine ⟨fun t Hx => ∃ i : Nat, t = (i : Nat) ∧ 1 ≤ i ∧ (i ≤ l ∨ i = 1) ∧ Le H Hx ∧ rsB lt (xs.take i) = true, fun t _ => ((l : Int) - t).toNat, ⟨1, rfl, Nat.le_refl _, .inr rfl, Le.refl _, rsB_one (by simp; omega)⟩, ?_⟩
  rintro t Hx ⟨i, rfl, g1, g2, lex, hr⟩
  refine bcd (fun hlt => ?_) fun hlt => ?_
  · have hi : i < xs.length := by omega
    refine chk (by omega) (rsE (h.le lex) (k := i - 1) (by omega) (by omega) (rsE (h.le lex) rfl hi (hf Hx _ _ _ lex fun H' le' => bcd (fun hge => ?_) fun hge => ?_)))
    · have : rsB lt xs = false := rsB_bad hi g1 (cmp3_ge hge)
      have hK := hK H' (lex.trans le')
      rw [this] at hK; exact hK
    · exact chk (by omega) ⟨⟨i + 1, by omega, by omega, .inl (by omega), lex.trans le', rsB_next hi g1 hr (cmp3_lt (by omega))⟩, by first | omega | (dsimp only; omega)⟩
  · have hK := hK Hx lex
    rw [List.take_of_length_le (by omega)] at hr
    rw [hr] at hK; exact hK
end
section
variable {H : Hp} {p : Option Addr} {l cc : Nat} {xs : List Lid}
theorem patch_rises_api_LineID.c {f : Value} {lt : Lid → Lid → Bool} {K : Bool → Hp → Prop} (h : Sn 2 lidC H p l cc xs) (hl : l ≤ 1000000000) (hf : ∀ Hx x y (K : Int → Hp → Prop), Le H Hx → (∀ H', Le Hx H' → K (cmp3 lt x y) H') → CallV prog f [lidV x, lidV y] Hx fun v H' => liftI .i64 v fun r => K r H')
    (hK : ∀ H', Le H H' → K (rsB lt xs) H') : patch_rises_api_LineID.C p l cc f H K := by
  apply patch_rises_api_LineID.of
  have el := h.len
  refine ⟨fun t Hx => ∃ i : Nat, t = (i : Nat) ∧ 1 ≤ i ∧ (i ≤ l ∨ i = 1) ∧ Le H Hx ∧ rsB lt (xs.take i) = true, fun t _ => ((l : Int) - t).toNat, ⟨1, rfl, Nat.le_refl _, .inr rfl, Le.refl _, rsB_one (by simp; omega)⟩, ?_⟩
  rintro t Hx ⟨i, rfl, g1, g2, lex, hr⟩
  refine bcd (fun hlt => ?_) fun hlt => ?_
  · have hi : i < xs.length := by omega
    refine chk (by omega) (rsL (h.le lex) (k := i - 1) (by omega) (by omega) (rsL (h.le lex) rfl hi (hf Hx _ _ _ lex fun H' le' => bcd (fun hge => ?_) fun hge => ?_)))
    · have : rsB lt xs = false := rsB_bad hi g1 (cmp3_ge hge)
      have hK := hK H' (lex.trans le')
      rw [this] at hK; exact hK
    · exact chk (by omega) ⟨⟨i + 1, by omega, by omega, .inl (by omega), lex.trans le', rsB_next hi g1 hr (cmp3_lt (by omega))⟩, by first | omega | (dsimp only; omega)⟩
  · have hK := hK Hx lex
    rw [List.take_of_length_le (by omega)] at hr
    rw [hr] at hK; exact hK
end
end Go.Proofs.Ytbpbgkpkkklipaa
namespace Go.Proofs.Ytbpbgkpkkklipaa
open Go.V
/-! ### Patches -/
structure Hk where
  path : BL
  adds : List BL
  edges : List Ed
  kills : List Lid
  deriving DecidableEq
structure Pt where
  id : Int
  deps : List Int
  makes : List BL
  drops : List BL
  hunks : List Hk
  deriving DecidableEq
/-- A slice of hunks. -/
def HkH (H : Hp) (p : Option Addr) (l c : Nat) (hs : List Hk) : Prop :=
  l = hs.length ∧ l ≤ c ∧ (hs = [] ∨ ∃ b o, p = some ⟨b, o, none⟩ ∧ ∀ i (h : i < hs.length), ∃ ap al ac ep el ec kp kl kc, rd H b (o + i * 4) = some (.string (mkB hs[i].path)) ∧ rd H b (o + i * 4 + 1) = some (.slice ap al ac) ∧ rd H b (o + i * 4 + 1 + 1) = some (.slice ep el ec) ∧ rd H b (o + i * 4 + 1 + 1 + 1) = some (.slice kp kl kc) ∧
    Sl sv H ap al ac hs[i].adds ∧ Sn 4 edC H ep el ec hs[i].edges ∧ Sn 2 lidC H kp kl kc hs[i].kills)
theorem Sn_le {α : Type} {n : Nat} {g : α → List Value} {H H' : Hp} {p : Option Addr} {l c : Nat} {xs : List α} (h : Sn n g H p l c xs) (hl : Le H H') : Sn n g H' p l c xs := h.le hl
theorem HkH_le {H H' : Hp} {p : Option Addr} {l c : Nat} {hs : List Hk} (h : HkH H p l c hs) (hl : Le H H') : HkH H' p l c hs := by
  refine ⟨h.1, h.2.1, h.2.2.imp id fun ⟨b, o, e, hh⟩ => ⟨b, o, e, fun i hi => ?_⟩⟩
  obtain ⟨ap, al, ac, ep, el, ec, kp, kl, kc, h1, h2, h3, h4, h5, h6, h7⟩ := hh i hi
  exact ⟨ap, al, ac, ep, el, ec, kp, kl, kc, hl.rd h1, hl.rd h2, hl.rd h3, hl.rd h4, h5.le hl, h6.le hl, h7.le hl⟩
theorem rsH {H : Hp} {p : Option Addr} {l c : Nat} {hs : List Hk} (h : HkH H p l c hs) {k : Nat} {e : Int} (he : e = (k : Int)) (hk : k < hs.length) {F : ByteArray → Option Addr → Nat → Nat → Option Addr → Nat → Nat → Option Addr → Nat → Nat → Prop}
    (hF : ∀ ap al ac ep el ec kp kl kc, Sl sv H ap al ac hs[k].adds → Sn 4 edC H ep el ec hs[k].edges → Sn 2 lidC H kp kl kc hs[k].kills → F (mkB hs[k].path) ap al ac ep el ec kp kl kc) :
    IDX e l fun k => NIL p fun b o => ldS (rd H b (o + (k * 4))) fun x => ldL (rd H b ((o + (k * 4)) + 1)) fun ap al ac => ldL (rd H b (((o + (k * 4)) + 1) + 1)) fun ep el ec => ldL (rd H b ((((o + (k * 4)) + 1) + 1) + 1)) fun kp kl kc => F x ap al ac ep el ec kp kl kc := by
  have hl := h.1
  rcases h.2.2 with h0 | ⟨b, o, rfl, hh⟩
  · subst h0; simp at hk
  · obtain ⟨ap, al, ac, ep, el, ec, kp, kl, kc, h1, h2, h3, h4, h5, h6, h7⟩ := hh k hk
    exact idxN k he (by omega) (nil (ldS_i h1 (ldL_i h2 (ldL_i h3 (ldL_i h4 (hF _ _ _ _ _ _ _ _ _ h5 h6 h7))))))
/-- A block of a hunk. -/
def D4 (H : Hp) (b : Nat) (f : ByteArray) (ap : Option Addr) (al ac : Nat) (ep : Option Addr) (el ec : Nat) (kp : Option Addr) (kl kc : Nat) : Prop := rd H b 0 = some (.string f) ∧ rd H b 1 = some (.slice ap al ac) ∧ rd H b 2 = some (.slice ep el ec) ∧ rd H b 3 = some (.slice kp kl kc)
section
variable {H H' : Hp} {b : Nat} {f : ByteArray} {ap ep kp : Option Addr} {al ac el ec kl kc : Nat} {O : List Nat}
theorem D4.new : D4 (upd H b [.string f, .slice ap al ac, .slice ep el ec, .slice kp kl kc]) b f ap al ac ep el ec kp kl kc := ⟨by rw [rd_upd_self]; rfl, by rw [rd_upd_self]; rfl, by rw [rd_upd_self]; rfl, by rw [rd_upd_self]; rfl⟩
theorem D4.le (h : D4 H b f ap al ac ep el ec kp kl kc) (hl : Le H H') : D4 H' b f ap al ac ep el ec kp kl kc := ⟨hl.rd h.1, hl.rd h.2.1, hl.rd h.2.2.1, hl.rd h.2.2.2⟩
theorem D4.mod (h : D4 H b f ap al ac ep el ec kp kl kc) (hl : Mod O H H') (hb : b ∉ O) : D4 H' b f ap al ac ep el ec kp kl kc := ⟨hl.rd hb h.1, hl.rd hb h.2.1, hl.rd hb h.2.2.1, hl.rd hb h.2.2.2⟩
theorem D4.there (h : D4 H b f ap al ac ep el ec kp kl kc) : H b ≠ none := ne_none_of_rd h.1
theorem D4.get {K : ByteArray → Option Addr → Nat → Nat → Option Addr → Nat → Nat → Option Addr → Nat → Nat → Prop} (h : D4 H b f ap al ac ep el ec kp kl kc) (hK : K f ap al ac ep el ec kp kl kc) :
    ldS (rd H b 0) fun g => ldL (rd H b 1) fun a b' c => ldL (rd H b 2) fun d e f => ldL (rd H b 3) fun i j k => K g a b' c d e f i j k := ldS_i h.1 (ldL_i h.2.1 (ldL_i h.2.2.1 (ldL_i h.2.2.2 hK)))
theorem D4.mk {q0 : ByteArray} {a0 b0 c0 : Option Addr} {a1 a2 b1 b2 c1 c2 : Nat} {F : Nat → Hp → Prop} (hF : ∀ q H', H q = none → D4 H' q f ap al ac ep el ec kp kl kc → Le H H' → F q H') :
    NEW H [.string q0, .slice a0 a1 a2, .slice b0 b1 b2, .slice c0 c1 c2] fun q H1 => ST H1 q 0 (.string f) fun H2 => ST H2 q 1 (.slice ap al ac) fun H3 => ST H3 q 2 (.slice ep el ec) fun H4 => ST H4 q 3 (.slice kp kl kc) fun H5 => F q H5 :=
  fun q hq => ST_upd rfl (ST_upd rfl (ST_upd rfl (ST_upd rfl (hF q _ hq D4.new (Le.upd hq)))))
end
/-- A block of a patch. -/
def D5 (H : Hp) (b : Nat) (id : Int) (dp : Option Addr) (dl dc : Nat) (mp : Option Addr) (ml mc : Nat) (qp : Option Addr) (ql qc : Nat) (hp : Option Addr) (hl hc : Nat) : Prop := rd H b 0 = some (.int .u32 id) ∧ rd H b 1 = some (.slice dp dl dc) ∧ rd H b 2 = some (.slice mp ml mc) ∧ rd H b 3 = some (.slice qp ql qc) ∧ rd H b 4 = some (.slice hp hl hc)
section
variable {H H' : Hp} {b : Nat} {id : Int} {dp mp qp hp : Option Addr} {dl dc ml mc ql qc hl hc : Nat} {O : List Nat}
theorem D5.new : D5 (upd H b [.int .u32 id, .slice dp dl dc, .slice mp ml mc, .slice qp ql qc, .slice hp hl hc]) b id dp dl dc mp ml mc qp ql qc hp hl hc := ⟨by rw [rd_upd_self]; rfl, by rw [rd_upd_self]; rfl, by rw [rd_upd_self]; rfl, by rw [rd_upd_self]; rfl, by rw [rd_upd_self]; rfl⟩
theorem D5.le (h : D5 H b id dp dl dc mp ml mc qp ql qc hp hl hc) (hle : Le H H') : D5 H' b id dp dl dc mp ml mc qp ql qc hp hl hc := ⟨hle.rd h.1, hle.rd h.2.1, hle.rd h.2.2.1, hle.rd h.2.2.2.1, hle.rd h.2.2.2.2⟩
theorem D5.mod (h : D5 H b id dp dl dc mp ml mc qp ql qc hp hl hc) (hm : Mod O H H') (hb : b ∉ O) : D5 H' b id dp dl dc mp ml mc qp ql qc hp hl hc := ⟨hm.rd hb h.1, hm.rd hb h.2.1, hm.rd hb h.2.2.1, hm.rd hb h.2.2.2.1, hm.rd hb h.2.2.2.2⟩
theorem D5.there (h : D5 H b id dp dl dc mp ml mc qp ql qc hp hl hc) : H b ≠ none := ne_none_of_rd h.1
theorem D5.get {K : Int → Option Addr → Nat → Nat → Option Addr → Nat → Nat → Option Addr → Nat → Nat → Option Addr → Nat → Nat → Prop} (h : D5 H b id dp dl dc mp ml mc qp ql qc hp hl hc) (hK : K id dp dl dc mp ml mc qp ql qc hp hl hc) :
    ldI .u32 (rd H b 0) fun g => ldL (rd H b 1) fun a b' c => ldL (rd H b 2) fun d e f => ldL (rd H b 3) fun i j k => ldL (rd H b 4) fun l m n => K g a b' c d e f i j k l m n := ldI_i h.1 (ldL_i h.2.1 (ldL_i h.2.2.1 (ldL_i h.2.2.2.1 (ldL_i h.2.2.2.2 hK))))
theorem D5.mk {i0 : Int} {a0 b0 c0 d0 : Option Addr} {a1 a2 b1 b2 c1 c2 d1 d2 : Nat} {F : Nat → Hp → Prop} (hF : ∀ q H', H q = none → D5 H' q id dp dl dc mp ml mc qp ql qc hp hl hc → Le H H' → F q H') :
    NEW H [.int .u32 i0, .slice a0 a1 a2, .slice b0 b1 b2, .slice c0 c1 c2, .slice d0 d1 d2] fun q H1 => ST H1 q 0 (.int .u32 id) fun H2 => ST H2 q 1 (.slice dp dl dc) fun H3 => ST H3 q 2 (.slice mp ml mc) fun H4 => ST H4 q 3 (.slice qp ql qc) fun H5 => ST H5 q 4 (.slice hp hl hc) fun H6 => F q H6 :=
  fun q hq => ST_upd rfl (ST_upd rfl (ST_upd rfl (ST_upd rfl (ST_upd rfl (hF q _ hq D5.new (Le.upd hq))))))
/-- A patch by value. -/
def PtS (H : Hp) (id : Int) (dp : Option Addr) (dl dc : Nat) (mp : Option Addr) (ml mc : Nat) (qp : Option Addr) (ql qc : Nat) (hp : Option Addr) (hl hc : Nat) (x : Pt) : Prop := id = x.id ∧ Sl fU H dp dl dc x.deps ∧ Sl sv H mp ml mc x.makes ∧ Sl sv H qp ql qc x.drops ∧ HkH H hp hl hc x.hunks
theorem PtS.up {x : Pt} (h : PtS H id dp dl dc mp ml mc qp ql qc hp hl hc x) (hle : Le H H') : PtS H' id dp dl dc mp ml mc qp ql qc hp hl hc x := ⟨h.1, h.2.1.le hle, h.2.2.1.le hle, h.2.2.2.1.le hle, HkH_le h.2.2.2.2 hle⟩
end
/-- Of no great size. -/
structure HkSm (h : Hk) : Prop where
  path : h.path.length ≤ 1000000
  adds : h.adds.length ≤ 1000
  edges : h.edges.length ≤ 1000
  kills : h.kills.length ≤ 1000
  text : ∀ s ∈ h.adds, s.length ≤ 1000000
structure PtSm (x : Pt) : Prop where
  deps : x.deps.length ≤ 1000
  makes : x.makes.length ≤ 1000
  drops : x.drops.length ≤ 1000
  hunks : x.hunks.length ≤ 1000
  mtext : ∀ s ∈ x.makes, s.length ≤ 1000000
  dtext : ∀ s ∈ x.drops, s.length ≤ 1000000
  each : ∀ h ∈ x.hunks, HkSm h
/-! ### What comes first -/
theorem ltStr_anti {x y : BL} (h1 : Sort.ltStr x y = false) (h2 : Sort.ltStr y x = false) : x = y := by
  unfold Sort.ltStr at h1 h2
  rw [decide_eq_false_iff_not] at h1 h2
  exact List.le_antisymm (List.not_lt.1 h2) (List.not_lt.1 h1)
theorem ltInt_anti {x y : Int} (h1 : Sort.ltInt x y = false) (h2 : Sort.ltInt y x = false) : x = y := by
  unfold Sort.ltInt at h1 h2
  rw [decide_eq_false_iff_not] at h1 h2
  omega
theorem ltStr_gt (x y : BL) : (!(Op.bytesLess (mkB x).toList (mkB y).toList || decide (mkB x = mkB y))) = Sort.ltStr y x := by
  rw [mkB_list, mkB_list, bytesLess_iff]
  have e : decide (mkB x = mkB y) = decide (x = y) := decide_eq_decide.2 ⟨mkB_eq, fun h => by rw [h]⟩
  rw [e]
  show (!(Sort.ltStr x y || decide (x = y))) = _
  cases h : Sort.ltStr y x with
  | true =>
    have h1 := Sort.swo_ltStr.asymmA h
    rw [h1, decide_eq_false (fun e => by subst e; rw [Sort.swo_ltStr.irrefl] at h; cases h)]; rfl
  | false =>
    cases h1 : Sort.ltStr x y with
    | true => rfl
    | false => rw [decide_eq_true (ltStr_anti h1 h)]; rfl
def lidLt (a b : Lid) : Bool := decide (a.p < b.p) || decide (a.p = b.p) && decide (a.n < b.n)
def edLt (a b : Ed) : Bool := lidLt a.a b.a || decide (a.a = b.a) && lidLt a.b b.b
theorem lidLt_iff {a b : Lid} : lidLt a b = true ↔ a.p < b.p ∨ a.p = b.p ∧ a.n < b.n := by unfold lidLt; simp
theorem lid_ext {a b : Lid} (h1 : a.p = b.p) (h2 : a.n = b.n) : a = b := by cases a; cases b; simp_all
theorem edLt_iff {a b : Ed} : edLt a b = true ↔ lidLt a.a b.a = true ∨ a.a = b.a ∧ lidLt a.b b.b = true := by unfold edLt; simp
theorem ed_ext {a b : Ed} (h1 : a.a = b.a) (h2 : a.b = b.b) : a = b := by cases a; cases b; simp_all
theorem lidLt_tr (a b c : Lid) (h1 : lidLt a b = true) (h2 : lidLt b c = true) : lidLt a c = true := by rw [lidLt_iff] at *; omega
theorem lidLt_anti {a b : Lid} (h1 : lidLt a b = false) (h2 : lidLt b a = false) : a = b := by
  rw [← Bool.not_eq_true, lidLt_iff] at h1 h2
  exact lid_ext (by omega) (by omega)
theorem lidLt_irr (a : Lid) : lidLt a a = false := by rw [← Bool.not_eq_true, lidLt_iff]; omega
theorem edLt_irr (a : Ed) : edLt a a = false := by rw [← Bool.not_eq_true, edLt_iff, lidLt_irr, lidLt_irr]; simp
theorem edLt_tr (a b c : Ed) (h1 : edLt a b = true) (h2 : edLt b c = true) : edLt a c = true := by
  rw [edLt_iff] at *
  rcases h1 with h1 | ⟨e1, h1⟩ <;> rcases h2 with h2 | ⟨e2, h2⟩
  · exact .inl (lidLt_tr _ _ _ h1 h2)
  · exact .inl (by rw [← e2]; exact h1)
  · exact .inl (by rw [e1]; exact h2)
  · exact .inr ⟨e1.trans e2, lidLt_tr _ _ _ h1 h2⟩
theorem edLt_anti {a b : Ed} (h1 : edLt a b = false) (h2 : edLt b a = false) : a = b := by
  rw [← Bool.not_eq_true, edLt_iff] at h1 h2
  have ea : a.a = b.a := lidLt_anti (by cases h : lidLt a.a b.a; rfl; exact absurd (.inl h) h1) (by cases h : lidLt b.a a.a; rfl; exact absurd (.inl h) h2)
  refine ed_ext ea (lidLt_anti ?_ ?_)
  · cases h : lidLt a.b b.b; rfl; exact absurd (.inr ⟨ea, h⟩) h1
  · cases h : lidLt b.b a.b; rfl; exact absurd (.inr ⟨ea.symm, h⟩) h2
theorem ltInt_tr (x y z : Int) (h1 : Sort.ltInt x y = true) (h2 : Sort.ltInt y z = true) : Sort.ltInt x z = true := Sort.swo_ltInt.trans _ _ _ h1 h2
theorem ltStr_tr (x y z : BL) (h1 : Sort.ltStr x y = true) (h2 : Sort.ltStr y z = true) : Sort.ltStr x z = true := Sort.swo_ltStr.trans _ _ _ h1 h2
section
variable {H : Hp} {K : Int → Hp → Prop}
theorem cmp_Compare_uint32.c {x y : Int} (hK : K (cmp3 Sort.ltInt x y) H) : cmp_Compare_uint32.C x y H K := by
  apply cmp_Compare_uint32.of
  refine cmp_isNaN_uint32.of x (cmp_isNaN_uint32.of y ?_)
  refine bcd (fun h => absurd rfl h) fun _ => bcd (fun h => absurd rfl h) fun _ => ?_
  unfold cmp3 Sort.ltInt at hK
  refine bcd (fun h => ?_) fun h => bcd (fun h2 => ?_) fun h2 => ?_
  · rw [decide_eq_true h] at hK; exact hK
  · rw [decide_eq_false h, decide_eq_true h2] at hK; exact hK
  · rw [decide_eq_false h, decide_eq_false h2] at hK; exact hK
theorem cmp_Compare_int.c {x y : Int} (hK : K (cmp3 Sort.ltInt x y) H) : cmp_Compare_int.C x y H K := by
  apply cmp_Compare_int.of
  refine cmp_isNaN_int.of x (cmp_isNaN_int.of y ?_)
  refine bcd (fun h => absurd rfl h) fun _ => bcd (fun h => absurd rfl h) fun _ => ?_
  unfold cmp3 Sort.ltInt at hK
  refine bcd (fun h => ?_) fun h => bcd (fun h2 => ?_) fun h2 => ?_
  · rw [decide_eq_true h] at hK; exact hK
  · rw [decide_eq_false h, decide_eq_true h2] at hK; exact hK
  · rw [decide_eq_false h, decide_eq_false h2] at hK; exact hK
theorem cmp_Compare_string.c {x y : BL} (hK : K (cmp3 Sort.ltStr x y) H) : cmp_Compare_string.C (mkB x) (mkB y) H K := by
  apply cmp_Compare_string.of
  refine cmp_isNaN_string.of (mkB x) (cmp_isNaN_string.of (mkB y) ?_)
  refine bcd (fun h => absurd rfl h) fun _ => bcd (fun h => absurd rfl h) fun _ => ?_
  rw [ltStr_gt, mkB_list, mkB_list, bytesLess_iff]
  show bc (Sort.ltStr x y) _ _
  unfold cmp3 at hK
  refine bc_i (fun h => ?_) fun h => bc_i (fun h2 => ?_) fun h2 => ?_
  · rw [h] at hK; exact hK
  · rw [h, h2] at hK; exact hK
  · rw [h, h2] at hK; exact hK
theorem cmp_Or_int.c {p : Option Addr} {c : Nat} {x y : Int} (h : Sl (.int .i64) H p 2 c [x, y]) (hK : K (if x ≠ 0 then x else y) H) : cmp_Or_int.C p 2 c H K := by
  apply cmp_Or_int.of
  obtain ⟨b, o, rfl, hr⟩ := h.at (i := 0) (by simp)
  have r0 := hr 0 (by simp)
  have r1 := hr 1 (by simp)
  refine ⟨fun t Hx => ∃ i : Nat, t = (i : Nat) ∧ i ≤ 2 ∧ Hx = H ∧ (0 < i → x = 0) ∧ (1 < i → y = 0), fun t _ => ((2 : Int) - t).toNat, ⟨0, rfl, by omega, rfl, fun h => absurd h (by omega), fun h => absurd h (by omega)⟩, ?_⟩
  rintro t Hx ⟨i, rfl, gi, rfl, g1, g2⟩
  refine bcd (fun hlt => ?_) fun hlt => ?_
  · match i, gi with
    | 0, _ =>
      refine idxN 0 rfl (by decide) (nil (ldI_i r0 (bcd (fun hx => ?_) fun hx => ?_)))
      · rw [if_pos (show x ≠ 0 from hx)] at hK; exact hK
      · exact chk (by omega) ⟨⟨1, rfl, by omega, by trivial, fun _ => Classical.not_not.1 hx, fun h => absurd h (by omega)⟩, by first | omega | (dsimp only; omega)⟩
    | 1, _ =>
      have hx := g1 (by omega)
      rw [if_neg (by simp [hx])] at hK
      refine idxN 1 rfl (by decide) (nil (ldI_i r1 (bcd (fun _ => hK) fun hy => ?_)))
      exact chk (by omega) ⟨⟨2, rfl, by omega, by trivial, fun _ => hx, fun _ => Classical.not_not.1 hy⟩, by first | omega | (dsimp only; omega)⟩
    | 2, _ => omega
  · have : i = 2 := by omega
    subst this
    have hx := g1 (by omega)
    have hy := g2 (by omega)
    rw [if_neg (by simp [hx]), hy] at hK; exact hK
theorem pair_sl {H : Hp} {b : Nat} {x y : Int} : Sl (.int .i64) (upd H b ([.int .i64 x, .int .i64 y])) (some ⟨b, 0, none⟩) 2 2 [x, y] := by
  refine ⟨rfl, by decide, .inr ⟨b, 0, rfl, fun i hi => ?_⟩⟩
  rw [rd_upd_self]
  match i, hi with
  | 0, _ => rfl
  | 1, _ => rfl
theorem patch_Compare.c {x y : Lid} (hK : ∀ H', Le H H' → K (cmp3 lidLt x y) H') : patch_Compare.C x.p x.n y.p y.n H K := by
  apply patch_Compare.of
  intro b hb b2 hb2
  have le1 : Le H (upd H b [.int .u32 x.p, .int .i64 x.n]) := Le.upd hb
  have le2 := Le.upd (c := [.int .u32 y.p, .int .i64 y.n]) hb2
  have q0 : rd (upd H b [.int .u32 x.p, .int .i64 x.n]) b 0 = some (.int .u32 x.p) := by rw [rd_upd_self]; rfl
  have q1 : rd (upd H b [.int .u32 x.p, .int .i64 x.n]) b 1 = some (.int .i64 x.n) := by rw [rd_upd_self]; rfl
  have s0 : rd (upd (upd H b [.int .u32 x.p, .int .i64 x.n]) b2 [.int .u32 y.p, .int .i64 y.n]) b2 0 = some (.int .u32 y.p) := by rw [rd_upd_self]; rfl
  have s1 : rd (upd (upd H b [.int .u32 x.p, .int .i64 x.n]) b2 [.int .u32 y.p, .int .i64 y.n]) b2 1 = some (.int .i64 y.n) := by rw [rd_upd_self]; rfl
  refine ldI_i (le2.rd q0) (ldI_i s0 (ldI_i (le2.rd q1) (ldI_i s1 ?_)))
  refine cmp_Compare_uint32.c ⟨s1, le2.rd q1, cmp_Compare_int.c fun b3 hb3 => cmp_Or_int.c pair_sl ?_⟩
  have : (if cmp3 Sort.ltInt x.p y.p ≠ 0 then cmp3 Sort.ltInt x.p y.p else cmp3 Sort.ltInt x.n y.n) = cmp3 lidLt x y := by
    unfold cmp3 lidLt Sort.ltInt
    rcases Int.lt_trichotomy x.p y.p with h | h | h
    · simp [h]
    · rw [h]; simp
    · have h' : ¬ x.p < y.p := by omega
      have h2 : ¬ x.p = y.p := by omega
      simp [h, h', h2]
  rw [this]
  exact hK _ ((le1.trans le2).trans (Le.upd hb3))
theorem patch_CompareEdges.c {x y : Ed} (hK : ∀ H', Le H H' → K (cmp3 edLt x y) H') : patch_CompareEdges.C x.a.p x.a.n x.b.p x.b.n y.a.p y.a.n y.b.p y.b.n H K := by
  apply patch_CompareEdges.of
  intro b hb b2 hb2
  have le1 : Le H (upd H b [.int .u32 x.a.p, .int .i64 x.a.n, .int .u32 x.b.p, .int .i64 x.b.n]) := Le.upd hb
  have le2 := Le.upd (c := [.int .u32 y.a.p, .int .i64 y.a.n, .int .u32 y.b.p, .int .i64 y.b.n]) hb2
  have rx : ∀ j v, (edC x)[j]? = some v → rd (upd H b [.int .u32 x.a.p, .int .i64 x.a.n, .int .u32 x.b.p, .int .i64 x.b.n]) b j = some v := fun j v h => by
    rw [rd_upd_self]
    match j, h with
    | 0, h => simp [edC] at h; subst h; rfl
    | 1, h => simp [edC] at h; subst h; rfl
    | 2, h => simp [edC] at h; subst h; rfl
    | 3, h => simp [edC] at h; subst h; rfl
    | j + 4, h => simp [edC] at h
  have ry : ∀ j v, (edC y)[j]? = some v → rd (upd (upd H b [.int .u32 x.a.p, .int .i64 x.a.n, .int .u32 x.b.p, .int .i64 x.b.n]) b2 [.int .u32 y.a.p, .int .i64 y.a.n, .int .u32 y.b.p, .int .i64 y.b.n]) b2 j = some v := fun j v h => by
    rw [rd_upd_self]
    match j, h with
    | 0, h => simp [edC] at h; subst h; rfl
    | 1, h => simp [edC] at h; subst h; rfl
    | 2, h => simp [edC] at h; subst h; rfl
    | 3, h => simp [edC] at h; subst h; rfl
    | j + 4, h => simp [edC] at h
  refine ldI_i (le2.rd (rx 0 _ rfl)) (ldI_i (le2.rd (rx 1 _ rfl)) (ldI_i (ry 0 _ rfl) (ldI_i (ry 1 _ rfl) (ldI_i (le2.rd (rx 2 _ rfl)) (ldI_i (le2.rd (rx 3 _ rfl)) (ldI_i (ry 2 _ rfl) (ldI_i (ry 3 _ rfl) ?_)))))))
  refine patch_Compare.c (x := x.a) (y := y.a) fun H3 le3 => ⟨le3.rd (ry 2 _ rfl), le3.rd (ry 3 _ rfl), le3.rd (le2.rd (rx 2 _ rfl)), le3.rd (le2.rd (rx 3 _ rfl)), patch_Compare.c (x := x.b) (y := y.b) fun H4 le4 b3 hb3 => cmp_Or_int.c pair_sl ?_⟩
  have : (if cmp3 lidLt x.a y.a ≠ 0 then cmp3 lidLt x.a y.a else cmp3 lidLt x.b y.b) = cmp3 edLt x y := by
    unfold cmp3 edLt
    cases h1 : lidLt x.a y.a with
    | true => simp
    | false =>
      cases h2 : lidLt y.a x.a with
      | true =>
        have : x.a ≠ y.a := fun e => by rw [e, lidLt_irr] at h2; cases h2
        simp [this]
      | false =>
        have := lidLt_anti h1 h2
        simp [this]
  rw [this]
  exact hK _ ((((le1.trans le2).trans le3).trans le4).trans (Le.upd hb3))
end
/-! ### Paths, lines -/
def pathC (c : UInt8) : Bool := decide (97 ≤ c.toNat ∧ c.toNat ≤ 122 ∨ 48 ≤ c.toNat ∧ c.toNat ≤ 57 ∨ c.toNat = 46 ∨ c.toNat = 47)
def pathB (s : BL) : Bool := decide (s ≠ []) && decide (s.length ≤ 20) && s.all pathC
def lineB (s : BL) : Bool := decide (s ≠ []) && decide (s.length ≤ 60) && decide (10 ∉ s.dropLast)
theorem getD_Lp {s : ByteArray} {k : Nat} (h : k < s.size) : s.data.toList.getD k 0 = (L s)[k]'(by rw [← L_size]; exact h) := by
  have : k < (L s).length := by rw [← L_size]; exact h
  show (L s).getD k 0 = _
  simp [List.getD, this]
theorem mkB_nil_iff {s : BL} : mkB s = bs [] ↔ s = [] := ⟨fun h => congrArg L h, fun h => by rw [h]; rfl⟩
section
variable {H : Hp} {K : Bool → Hp → Prop}
theorem patch_IsPath.c {s : BL} (hs : s.length ≤ 1000000000) (hK : K (pathB s) H) : patch_IsPath.C (mkB s) H K := by
  apply patch_IsPath.of
  unfold pathB at hK
  refine bcd (fun h => ?_) fun h => ?_
  · rw [decide_eq_false (by simpa using mkB_nil_iff.1 h)] at hK; exact hK
  rw [decide_eq_true (show s ≠ [] from fun e => h (mkB_nil_iff.2 e)), Bool.true_and] at hK
  have hz : (mkB s).size = s.length := mkB_size s
  refine bcd (fun h2 => ?_) fun h2 => ?_
  · rw [decide_eq_false (by omega)] at hK; exact hK
  rw [decide_eq_true (by omega), Bool.true_and] at hK
  unfold patch_IsPath.k1
  refine ⟨fun t Hx => ∃ i : Nat, t = (i : Nat) ∧ i ≤ s.length ∧ Hx = H ∧ (s.take i).all pathC = true, fun t _ => ((s.length : Int) - t).toNat, ⟨0, rfl, Nat.zero_le _, rfl, rfl⟩, ?_⟩
  rintro t Hx ⟨i, rfl, gi, rfl, hp⟩
  refine bcd (fun hlt => ?_) fun hlt => ?_
  · have hi : i < s.length := by omega
    refine idxN i rfl (by omega) ?_
    rw [getD_Lp (by omega)]
    have ec : (L (mkB s))[i]'(by rw [← L_size]; omega) = s[i] := rfl
    simp only [ec]
    have next : pathC s[i] = true → CHK .i64 (((i : Nat) : Int) + (1 : Int)) fun x => (∃ i : Nat, x = (i : Nat) ∧ i ≤ s.length ∧ True ∧ (s.take i).all pathC = true) ∧ ((s.length : Int) - x).toNat < ((s.length : Int) - ((i : Nat) : Int)).toNat := fun h =>
      chk (by omega) ⟨⟨i + 1, by omega, by omega, trivial, by rw [List.take_succ_eq_append_getElem hi, List.all_append, hp]; simp [h]⟩, by omega⟩
    have bad : pathC s[i] = false → K false Hx := fun h => by
      have : s.all pathC = false := List.all_eq_false.2 ⟨_, List.getElem_mem hi, by rw [h]; decide⟩
      rw [this] at hK; exact hK
    unfold pathC at next bad
    repeat' first | refine bcd (fun _ => ?_) fun _ => ?_
    all_goals first | exact next (by rw [decide_eq_true_eq]; omega) | exact bad (by rw [decide_eq_false_iff_not]; omega)
  · rw [List.take_of_length_le (by omega)] at hp
    rw [hp] at hK; exact hK
theorem patch_isLine.c {s : BL} (hs : s.length ≤ 1000000000) (hK : K (lineB s) H) : patch_isLine.C (mkB s) H K := by
  apply patch_isLine.of
  unfold lineB at hK
  refine bcd (fun h => ?_) fun h => ?_
  · rw [decide_eq_false (by simpa using mkB_nil_iff.1 h)] at hK; exact hK
  have hne : s ≠ [] := fun e => h (mkB_nil_iff.2 e)
  rw [decide_eq_true hne, Bool.true_and] at hK
  have hz : (mkB s).size = s.length := mkB_size s
  refine bcd (fun h2 => ?_) fun h2 => ?_
  · rw [decide_eq_false (by omega)] at hK; exact hK
  rw [decide_eq_true (by omega), Bool.true_and] at hK
  have hpos := List.length_pos_iff.2 hne
  have hdl : s.dropLast.length = s.length - 1 := by simp
  unfold patch_isLine.k1
  refine chk (by omega) ?_
  refine ⟨fun t Hx => ∃ i : Nat, t = (i : Nat) ∧ i ≤ s.length - 1 ∧ Hx = H ∧ 10 ∉ s.take i, fun t _ => ((s.length : Int) - t).toNat, ⟨0, rfl, Nat.zero_le _, rfl, by simp⟩, ?_⟩
  rintro t Hx ⟨i, rfl, gi, rfl, hp⟩
  refine bcd (fun hlt => ?_) fun hlt => ?_
  · have hi : i < s.length := by omega
    refine idxN i rfl (by omega) ?_
    rw [getD_Lp (by omega)]
    have ec : (L (mkB s))[i]'(by rw [← L_size]; omega) = s[i] := rfl
    simp only [ec]
    refine bcd (fun h10 => ?_) fun h10 => ?_
    · have e : s[i] = 10 := UInt8.toNat_inj.1 (by show _ = 10; omega)
      have hm : (10 : UInt8) ∈ s.dropLast := by
        rw [← e, List.dropLast_eq_take]
        refine List.mem_iff_getElem.2 ⟨i, by simp; omega, by simp⟩
      rw [decide_eq_false (fun h => h hm)] at hK; exact hK
    · refine chk (by omega) ⟨⟨i + 1, by omega, by omega, by trivial, fun hm => ?_⟩, by first | omega | (dsimp only; omega)⟩
      rw [List.take_succ_eq_append_getElem hi, List.mem_append] at hm
      rcases hm with hm | hm
      · exact hp hm
      · simp at hm
        exact h10 (by rw [← hm]; rfl)
  · have : i = s.length - 1 := by omega
    rw [this, ← List.dropLast_eq_take] at hp
    rw [decide_eq_true hp] at hK; exact hK
def pathsB (l : List BL) : Bool := decide (l.length ≤ 6) && (rsB Sort.ltStr l && l.all pathB)
theorem patch_paths.c {p : Option Addr} {l c : Nat} {xs : List BL} (h : Sl sv H p l c xs) (hl : l ≤ 1000000000) (ht : ∀ s ∈ xs, s.length ≤ 1000000000) (hK : ∀ H', Le H H' → K (pathsB xs) H') : patch_paths.C p l c H K := by
  apply patch_paths.of
  have el := h.len
  unfold pathsB at hK
  refine bcd (fun h6 => ?_) fun h6 => ?_
  · rw [decide_eq_true (by omega)] at hK
    simp only [Bool.true_and] at hK
    refine patch_rises_string.c (lt := Sort.ltStr) h hl (fun Hx x y K _ hk => ?_) fun H1 le1 => bc_i (fun hr => ?_) fun hr => ?_
    · show cmp_Compare_string.C (mkB x) (mkB y) Hx K
      exact cmp_Compare_string.c (hk Hx (Le.refl _))
    · rw [hr] at hK
      simp only [Bool.true_and] at hK
      refine slices_ContainsFunc_string_string.c (q := fun s => !pathB s) (h.le le1) hl (fun Hx x hx K _ hk => ?_) fun H2 le2 => ?_
      · show patch_paths_1.C (mkB x) Hx K
        apply patch_paths_1.of
        exact patch_IsPath.c (ht x hx) (hk Hx (Le.refl _))
      · have e : (!xs.any fun s => !pathB s) = xs.all pathB := by
          rw [Bool.eq_iff_iff]; simp
        rw [e]; exact hK H2 (le1.trans le2)
    · rw [hr] at hK
      exact hK H1 le1
  · rw [decide_eq_false (by omega)] at hK
    exact hK H (Le.refl _)
end
end Go.Proofs.Ytbpbgkpkkklipaa
namespace Go.Proofs.Ytbpbgkpkkklipaa
open Go.V
/-! ### Blocks of edges, of lines; what an append may rest on -/
def DE (H : Hp) (b : Nat) (e : Ed) : Prop := rd H b 0 = some (.int .u32 e.a.p) ∧ rd H b 1 = some (.int .i64 e.a.n) ∧ rd H b 2 = some (.int .u32 e.b.p) ∧ rd H b 3 = some (.int .i64 e.b.n)
def DL (H : Hp) (b : Nat) (x : Lid) : Prop := rd H b 0 = some (.int .u32 x.p) ∧ rd H b 1 = some (.int .i64 x.n)
section
variable {H H' : Hp} {b : Nat} {e : Ed} {x : Lid}
theorem DE.le (h : DE H b e) (hl : Le H H') : DE H' b e := ⟨hl.rd h.1, hl.rd h.2.1, hl.rd h.2.2.1, hl.rd h.2.2.2⟩
theorem DL.le (h : DL H b x) (hl : Le H H') : DL H' b x := ⟨hl.rd h.1, hl.rd h.2⟩
theorem DE.new : DE (upd H b [.int .u32 e.a.p, .int .i64 e.a.n, .int .u32 e.b.p, .int .i64 e.b.n]) b e := ⟨by rw [rd_upd_self]; rfl, by rw [rd_upd_self]; rfl, by rw [rd_upd_self]; rfl, by rw [rd_upd_self]; rfl⟩
theorem DL.new : DL (upd H b [.int .u32 x.p, .int .i64 x.n]) b x := ⟨by rw [rd_upd_self]; rfl, by rw [rd_upd_self]; rfl⟩
theorem DE.mk {i0 i1 i2 i3 : Int} {F : Nat → Hp → Prop} (hF : ∀ q H', H q = none → DE H' q e → Le H H' → F q H') :
    NEW H [.int .u32 i0, .int .i64 i1, .int .u32 i2, .int .i64 i3] fun q H1 => ST H1 q 0 (.int .u32 e.a.p) fun H2 => ST H2 q 1 (.int .i64 e.a.n) fun H3 => ST H3 q 2 (.int .u32 e.b.p) fun H4 => ST H4 q 3 (.int .i64 e.b.n) fun H5 => F q H5 :=
  fun q hq => ST_upd rfl (ST_upd rfl (ST_upd rfl (ST_upd rfl (hF q _ hq DE.new (Le.upd hq)))))
theorem DL.mk {i0 i1 : Int} {F : Nat → Hp → Prop} (hF : ∀ q H', H q = none → DL H' q x → Le H H' → F q H') :
    NEW H [.int .u32 i0, .int .i64 i1] fun q H1 => ST H1 q 0 (.int .u32 x.p) fun H2 => ST H2 q 1 (.int .i64 x.n) fun H3 => F q H3 :=
  fun q hq => ST_upd rfl (ST_upd rfl (hF q _ hq DL.new (Le.upd hq)))
end
theorem all_next {α : Type} {f : α → Bool} {xs : List α} {i : Nat} (hi : i < xs.length) (h : (xs.take i).all f = true) (h' : f xs[i] = true) : (xs.take (i + 1)).all f = true := by
  rw [List.take_succ_eq_append_getElem hi, List.all_append, h]; simp [h']
theorem all_bad {α : Type} {f : α → Bool} {xs : List α} {i : Nat} (hi : i < xs.length) (h' : f xs[i] = false) : xs.all f = false := List.all_eq_false.2 ⟨_, List.getElem_mem hi, by rw [h']; decide⟩
theorem all_end {α : Type} {f : α → Bool} {xs : List α} {i : Nat} (h : (xs.take i).all f = true) (hi : xs.length ≤ i) : xs.all f = true := by rwa [List.take_of_length_le hi] at h
section
variable {s : Nat} {A A' H H' : Hp} {p : Option Addr} {l c : Nat} {cells : List Value}
theorem bApp2 (hB : Buf 1 A H p l c cells) (hA : Le A H) {te : TE} {x y : Value} (hs : te.size = 1) (hz : te.zc.length = 1) (hbp : 0 < te.bytes) (hx : isCell x = true) (hy : isCell y = true) (hfit : (l + 2) * te.bytes ≤ 140737488355328) {F : Option Addr → Nat → Nat → Hp → Prop}
    (hF : ∀ p' c' H', Buf 1 A H' p' (l + 2) c' (cells ++ [x, y]) → Le A H' → F p' (l + 2) c' H') (hzc : te.zc.all isCell = true := by rfl) (htl : te.tl = [] := by rfl) :
    NEW H [x, y] fun b H1 => APP H1 te p l c (.slice (some ⟨b, 0, none⟩) 2 2) F := by
  intro b hb
  exact (hB.le (.upd hb)).appN hs (by decide) hz hbp (n := 2) (new := [x, y]) rfl (by simp [hx, hy]) hfit (hA.trans (.upd hb)) (fun G hG => ⟨[x, y], rdN_self (by simp [upd]) rfl (by simp [hx, hy]), hG⟩) (fun p' c' H' h1 h2 _ => hF p' c' H' h1 h2) hzc htl
theorem but_rd {b o : Nat} {v : Value} (h : rd H b o = some v) (hp : b ∉ blkL p) : rd (but H p) b o = some v := by
  have : but H p b = H b := by
    unfold but
    split
    · rw [if_neg (fun e => hp (by rw [e]; simp [blkL]))]
    · rfl
  unfold rd at h ⊢
  rw [this]; exact h
theorem bNblk (hB : Buf s A H p l c cells) {b : Nat} (hb : A b ≠ Option.none) : b ∉ blkL p := fun h => hb (hB.fr b 0 (blkL_mem hB.zero h))
theorem bNblkN (hB : Buf s A H p l c cells) {b : Nat} (hb : H b = Option.none) : b ∉ blkL p := fun h => hB.there (blkL_mem hB.zero h) hb
theorem bCut (hB : Buf s A H p l c cells) : Buf s (but H p) H p l c cells := hB.base fun b hb _ => by unfold but; rw [hb]; simp
theorem bCutLe (hB : Buf s A H p l c cells) (hA : Le A H) : Le A (but H p) := fun b d e => by
  have hn : b ∉ blkL p := bNblk hB (by rw [e]; intro h; cases h)
  have : but H p b = H b := by
    unfold but
    split
    · rw [if_neg (fun e => hn (by rw [e]; simp [blkL]))]
    · rfl
  rw [this]; exact hA _ _ e
theorem bBack (hB : Buf s A' H p l c cells) (h : Le A A') : Buf s A H p l c cells := hB.base fun _ _ e => none_of_le h e
end
/-! ### Is it a hunk -/
def namedB (id fr n : Int) (x : Lid) : Bool := decide (0 ≤ x.n) && (decide (x.n < 40) && (decide (¬ x.p = id) || (decide (fr ≤ x.n) && decide (x.n < fr + n))))
def hunkB (id fr : Int) (h : Hk) : Bool :=
  decide (h.adds.length ≤ 40) && (decide (h.edges.length ≤ 80) && (decide (h.kills.length ≤ 40) && (h.adds.all lineB && ((h.edges.all fun e => namedB id fr h.adds.length e.a && (namedB id fr h.adds.length e.b && decide (¬ e.a = e.b))) && ((h.kills.all fun k => namedB id fr h.adds.length k && decide (¬ k.p = id)) && (rsB edLt h.edges && rsB lidLt h.kills))))))
section
variable {H : Hp} {K : Bool → Hp → Prop}
theorem patch_isHunk_1.c {c3 c4 c5 : Nat} {x : Lid} {id fr : Int} {ap : Option Addr} {al ac : Nat} (h3 : rd H c3 0 = some (.int .u32 id)) (h4 : rd H c4 0 = some (.int .i64 fr)) (h5 : rd H c5 1 = some (.slice ap al ac)) (hs : 0 ≤ fr ∧ fr + al ≤ 2000000000) (hK : ∀ H', Le H H' → K (namedB id fr al x) H') : patch_isHunk_1.C x.p x.n c3 c4 c5 H K := by
  apply patch_isHunk_1.of
  intro b hb
  have le := Le.upd (c := [.int .u32 x.p, .int .i64 x.n]) hb
  have d := DL.new (H := H) (b := b) (x := x)
  have hK := hK _ le
  unfold namedB at hK
  have tail : ∀ own, own = (decide (¬ x.p = id) || (decide (fr ≤ x.n) && decide (x.n < fr + al))) → patch_isHunk_1.k1 K b own (upd H b [.int .u32 x.p, .int .i64 x.n]) := by
    intro own e
    rw [← e] at hK
    unfold patch_isHunk_1.k1
    refine ldI_i d.2 (bcd (fun h => ldI_i d.2 (bcd (fun h2 => ?_) fun h2 => ?_)) fun h => ?_)
    · rw [decide_eq_true h, decide_eq_true h2] at hK; simpa using hK
    · rw [decide_eq_true h, decide_eq_false h2] at hK; simpa using hK
    · rw [decide_eq_false h] at hK; simpa using hK
  refine ldI_i d.1 (ldI_i (le.rd h3) (bcd (fun h => tail _ (by simp [h])) fun h => ldI_i d.2 (ldI_i (le.rd h4) (bcd (fun h2 => ldI_i d.2 (ldI_i (le.rd h4) (ldL_i (le.rd h5) (chk (by omega) (tail _ ?_))))) fun h2 => tail _ ?_))))
  · rw [decide_eq_false h, decide_eq_true h2]; simp
  · rw [decide_eq_false h, decide_eq_false h2]; rfl
theorem patch_isHunk.c {id fr : Int} {h : Hk} {ap ep kp : Option Addr} {al ac el ec kl kc : Nat} (ha : Sl sv H ap al ac h.adds) (he : Sn 4 edC H ep el ec h.edges) (hk : Sn 2 lidC H kp kl kc h.kills) (hsm : HkSm h) (hf : 0 ≤ fr ∧ fr ≤ 1000000000) (hK : ∀ H', Le H H' → K (hunkB id fr h) H') : patch_isHunk.C id (mkB h.path) ap al ac ep el ec kp kl kc fr H K := by
  apply patch_isHunk.of
  intro b1 hb1 b2 hb2 b3 hb3
  have l1 := Le.upd (c := [.int .u32 id]) hb1
  have l2 := Le.upd (c := [.string (mkB h.path), .slice ap al ac, .slice ep el ec, .slice kp kl kc]) hb2
  have l3 := Le.upd (c := [.int .i64 fr]) hb3
  have ea := ha.len
  have ee := he.len
  have ek := hk.len
  have hsa := hsm.adds
  have hse := hsm.edges
  have hsk := hsm.kills
  have d := (D4.new (H := upd H b1 [.int .u32 id]) (b := b2) (f := mkB h.path) (ap := ap) (al := al) (ac := ac) (ep := ep) (el := el) (ec := ec) (kp := kp) (kl := kl) (kc := kc)).le l3
  have c1 : rd (upd H b1 [.int .u32 id]) b1 0 = some (.int .u32 id) := by rw [rd_upd_self]; rfl
  have c1 := l3.rd (l2.rd c1)
  have c3 : rd (upd (upd (upd H b1 [.int .u32 id]) b2 [.string (mkB h.path), .slice ap al ac, .slice ep el ec, .slice kp kl kc]) b3 [.int .i64 fr]) b3 0 = some (.int .i64 fr) := by rw [rd_upd_self]; rfl
  have l0 := (l1.trans l2).trans l3
  revert d c1 c3 l0
  generalize upd (upd (upd H b1 [.int .u32 id]) b2 [.string (mkB h.path), .slice ap al ac, .slice ep el ec, .slice kp kl kc]) b3 [.int .i64 fr] = H3
  intro d c1 c3 l0
  unfold hunkB at hK
  refine ldL_i d.2.1 (bcd (fun hh => ?_) fun h1 => ldL_i d.2.2.1 (bcd (fun hh => ?_) fun h2 => ldL_i d.2.2.2 (bcd (fun hh => ?_) fun h3 => ?_)))
  · have := hK _ l0
    rw [decide_eq_false (by omega)] at this; exact this
  · have := hK _ l0
    rw [decide_eq_true (by omega), decide_eq_false (by omega)] at this; exact this
  · have := hK _ l0
    rw [decide_eq_true (by omega), decide_eq_true (by omega), decide_eq_false (by omega)] at this; exact this
  have hal : (al : Int) = (h.adds.length : Nat) := by omega
  rw [decide_eq_true (by omega), decide_eq_true (by omega), decide_eq_true (by omega)] at hK
  simp only [Bool.true_and] at hK
  unfold patch_isHunk.k1
  refine ldL_i d.2.1 ⟨fun t Hx => ∃ i : Nat, t = (i : Nat) ∧ i ≤ al ∧ Le H3 Hx ∧ (h.adds.take i).all lineB = true, fun t _ => ((al : Int) - t).toNat, ⟨0, rfl, Nat.zero_le _, Le.refl _, rfl⟩, ?_⟩
  rintro t Hx ⟨i, rfl, gi, le4, hp⟩
  refine bcd (fun hlt => ?_) fun hlt => ?_
  · have hi : i < h.adds.length := by omega
    refine rsT (ha.le (l0.trans le4)) rfl hi ?_
    refine patch_isLine.c (Nat.le_trans (hsm.text _ (List.getElem_mem hi)) (by decide)) (bcn (fun hb => ?_) fun hb => ?_)
    · have := hK _ (l0.trans le4)
      rw [all_bad hi hb] at this; exact this
    · exact chk (by omega) ⟨⟨i + 1, by omega, by omega, le4, all_next hi hp hb⟩, by first | omega | (dsimp only; omega)⟩
  rw [all_end hp (by omega)] at hK
  simp only [Bool.true_and] at hK
  have d4 := d.le le4
  have nm : ∀ {Hy : Hp} (_ : Le H3 Hy) (x : Lid) (G : Bool → Hp → Prop), (∀ H', Le Hy H' → G (namedB id fr h.adds.length x) H') → patch_isHunk_1.C x.p x.n b1 b3 b2 Hy G := fun {Hy} ly x G hG =>
    patch_isHunk_1.c (ly.rd c1) (ly.rd c3) (d.le ly).2.1 (by omega) (by rw [hal]; exact hG)
  refine ldL_i d4.2.2.1 ⟨fun t Hx => ∃ i : Nat, t = (i : Nat) ∧ i ≤ el ∧ Le H3 Hx ∧ ((h.edges.take i).all fun e => namedB id fr h.adds.length e.a && (namedB id fr h.adds.length e.b && decide (¬ e.a = e.b))) = true, fun t _ => ((el : Int) - t).toNat, ⟨0, rfl, Nat.zero_le _, le4, rfl⟩, ?_⟩
  rintro t Hx ⟨i, rfl, gi, le5, hp⟩
  refine bcd (fun hlt => ?_) fun hlt => ?_
  · have hi : i < h.edges.length := by omega
    have bad : ∀ {Hy}, Le H3 Hy → (namedB id fr h.adds.length h.edges[i].a && (namedB id fr h.adds.length h.edges[i].b && decide (¬ h.edges[i].a = h.edges[i].b))) = false → K false Hy := fun {Hy} ly hb => by
      have := hK _ (l0.trans ly)
      rw [all_bad (f := fun e => namedB id fr h.adds.length e.a && (namedB id fr h.adds.length e.b && decide (¬ e.a = e.b))) hi hb] at this; exact this
    refine rsE (he.le (l0.trans le5)) rfl hi (DE.mk (e := h.edges[i]) fun q H6 hq dq le6 => ldI_i dq.1 (ldI_i dq.2.1 ?_))
    refine nm (le5.trans le6) h.edges[i].a _ fun H7 le7 => bcn (fun hb => bad ((le5.trans le6).trans le7) (by rw [hb]; rfl)) fun hb => ?_
    have dq := dq.le le7
    refine ldI_i dq.2.2.1 (ldI_i dq.2.2.2 (nm ((le5.trans le6).trans le7) h.edges[i].b _ fun H8 le8 => bcn (fun hb2 => bad (((le5.trans le6).trans le7).trans le8) (by rw [hb, hb2]; rfl)) fun hb2 => ?_))
    have dq := dq.le le8
    refine ldI_i dq.1 (ldI_i dq.2.1 (ldI_i dq.2.2.1 (ldI_i dq.2.2.2 (bc_i (fun hc => ?_) fun hc => ?_))))
    · rw [Bool.and_eq_true, decide_eq_true_eq, decide_eq_true_eq] at hc
      have := lid_ext hc.1 hc.2
      exact bad (((le5.trans le6).trans le7).trans le8) (by simp [this])
    · have : ¬ h.edges[i].a = h.edges[i].b := fun e => by rw [e] at hc; simp at hc
      exact chk (by omega) ⟨⟨i + 1, by omega, by omega, ((le5.trans le6).trans le7).trans le8, all_next hi hp (by rw [hb, hb2]; simp [this])⟩, by first | omega | (dsimp only; omega)⟩
  rw [all_end hp (by omega)] at hK
  simp only [Bool.true_and] at hK
  have d5 := d.le le5
  refine ldL_i d5.2.2.2 ⟨fun t Hx => ∃ i : Nat, t = (i : Nat) ∧ i ≤ kl ∧ Le H3 Hx ∧ ((h.kills.take i).all fun k => namedB id fr h.adds.length k && decide (¬ k.p = id)) = true, fun t _ => ((kl : Int) - t).toNat, ⟨0, rfl, Nat.zero_le _, le5, rfl⟩, ?_⟩
  rintro t Hx ⟨i, rfl, gi, le6, hp⟩
  refine bcd (fun hlt => ?_) fun hlt => ?_
  · have hi : i < h.kills.length := by omega
    have bad : ∀ {Hy}, Le H3 Hy → (namedB id fr h.adds.length h.kills[i] && decide (¬ h.kills[i].p = id)) = false → K false Hy := fun {Hy} ly hb => by
      have := hK _ (l0.trans ly)
      rw [all_bad (f := fun k => namedB id fr h.adds.length k && decide (¬ k.p = id)) hi hb] at this; exact this
    refine rsL (hk.le (l0.trans le6)) rfl hi (DL.mk (x := h.kills[i]) fun q H7 hq dq le7 => ldI_i dq.1 (ldI_i dq.2 ?_))
    refine nm (le6.trans le7) h.kills[i] _ fun H8 le8 => bcn (fun hb => bad ((le6.trans le7).trans le8) (by rw [hb]; rfl)) fun hb => ?_
    have dq := dq.le le8
    refine ldI_i dq.1 (ldI_i (((le6.trans le7).trans le8).rd c1) (bcd (fun hc => bad ((le6.trans le7).trans le8) (by simp [hc])) fun hc => ?_))
    exact chk (by omega) ⟨⟨i + 1, by omega, by omega, (le6.trans le7).trans le8, all_next hi hp (by rw [hb]; simp [hc])⟩, by first | omega | (dsimp only; omega)⟩
  rw [all_end hp (by omega)] at hK
  simp only [Bool.true_and] at hK
  have d6 := d.le le6
  refine ldL_i d6.2.2.1 (patch_rises_api_Edge.c (lt := edLt) (he.le (l0.trans le6)) (by omega) (fun Hx x y G _ hk => ?_) fun H7 le7 => bc_i (fun hr => ?_) fun hr => ?_)
  · show patch_CompareEdges.C x.a.p x.a.n x.b.p x.b.n y.a.p y.a.n y.b.p y.b.n Hx G
    exact patch_CompareEdges.c hk
  · rw [hr] at hK
    simp only [Bool.true_and] at hK
    refine ldL_i (d6.le le7).2.2.2 (patch_rises_api_LineID.c (lt := lidLt) (hk.le ((l0.trans le6).trans le7)) (by omega) (fun Hx x y G _ hk => ?_) fun H8 le8 => hK _ (((l0.trans le6).trans le7).trans le8))
    show patch_Compare.C x.p x.n y.p y.n Hx G
    exact patch_Compare.c hk
  · rw [hr] at hK
    exact hK _ ((l0.trans le6).trans le7)
end
end Go.Proofs.Ytbpbgkpkkklipaa
namespace Go.Proofs.Ytbpbgkpkkklipaa
open Go.V
/-! ### What it needs -/
theorem rsH2 {H Hx : Hp} {p : Option Addr} {l c : Nat} {hs : List Hk} (h : HkH H p l c hs) (le : Le H Hx) {k : Nat} {e : Int} (he : e = (k : Int)) (hk : k < hs.length) {F : ByteArray → Option Addr → Nat → Nat → Option Addr → Nat → Nat → Option Addr → Nat → Nat → Prop}
    (hF : ∀ ap al ac ep el ec kp kl kc, Sl sv H ap al ac hs[k].adds → Sn 4 edC H ep el ec hs[k].edges → Sn 2 lidC H kp kl kc hs[k].kills → F (mkB hs[k].path) ap al ac ep el ec kp kl kc) :
    IDX e l fun k => NIL p fun b o => ldS (rd Hx b (o + (k * 4))) fun x => ldL (rd Hx b ((o + (k * 4)) + 1)) fun ap al ac => ldL (rd Hx b (((o + (k * 4)) + 1) + 1)) fun ep el ec => ldL (rd Hx b ((((o + (k * 4)) + 1) + 1) + 1)) fun kp kl kc => F x ap al ac ep el ec kp kl kc := by
  have hl := h.1
  rcases h.2.2 with h0 | ⟨b, o, rfl, hh⟩
  · subst h0; simp at hk
  · obtain ⟨ap, al, ac, ep, el, ec, kp, kl, kc, h1, h2, h3, h4, h5, h6, h7⟩ := hh k hk
    exact idxN k he (by omega) (nil (ldS_i (le.rd h1) (ldL_i (le.rd h2) (ldL_i (le.rd h3) (ldL_i (le.rd h4) (hF _ _ _ _ _ _ _ _ _ h5 h6 h7))))))
def edN (e : Ed) : List Int := [e.a.p, e.b.p]
def hkNames (h : Hk) : List Int := h.edges.flatMap edN ++ h.kills.map (·.p)
def ptNames (x : Pt) : List Int := x.hunks.flatMap hkNames
def needsL (x : Pt) : List Int := uniqL Sort.ltInt ((ptNames x).filter fun y => !decide (y = x.id))
theorem flatMap_lenLe {α β : Type} {f : α → List β} {m : Nat} : ∀ {xs : List α}, (∀ x ∈ xs, (f x).length ≤ m) → (xs.flatMap f).length ≤ xs.length * m
  | [], _ => by simp
  | x :: xs, h => by
    have h1 := h x (by simp)
    have h2 := flatMap_lenLe (xs := xs) fun y hy => h y (List.mem_cons_of_mem _ hy)
    rw [List.flatMap_cons, List.length_append, List.length_cons, Nat.add_mul]; omega
theorem hkNames_len {h : Hk} (hs : HkSm h) : (hkNames h).length ≤ 3000 := by
  have h1 : (h.edges.flatMap edN).length ≤ h.edges.length * 2 := flatMap_lenLe fun e _ => by simp [edN]
  have h2 := hs.edges
  have h3 := hs.kills
  unfold hkNames
  rw [List.length_append, List.length_map]; omega
theorem ptNames_take {x : Pt} (hs : PtSm x) (i : Nat) : ((x.hunks.take i).flatMap hkNames).length ≤ 3000000 := by
  have h1 := flatMap_lenLe (m := 3000) (xs := x.hunks.take i) (f := hkNames) fun h hh => hkNames_len (hs.each h (List.mem_of_mem_take hh))
  have h2 := hs.hunks
  have h3 : (x.hunks.take i).length ≤ 1000 := by rw [List.length_take]; omega
  have : (x.hunks.take i).length * 3000 ≤ 1000 * 3000 := Nat.mul_le_mul_right _ h3
  omega
theorem flatMap_snoc {α β : Type} {f : α → List β} {xs : List α} {i : Nat} (hi : i < xs.length) : (xs.take (i + 1)).flatMap f = (xs.take i).flatMap f ++ f xs[i] := by rw [List.take_succ_eq_append_getElem hi, List.flatMap_append, List.flatMap_cons, List.flatMap_nil, List.append_nil]
theorem map_snoc {α β : Type} {f : α → β} {xs : List α} {i : Nat} (hi : i < xs.length) : (xs.take (i + 1)).map f = (xs.take i).map f ++ [f xs[i]] := by rw [List.take_succ_eq_append_getElem hi, List.map_append]; rfl
theorem ltInt_irr (x : Int) : Sort.ltInt x x = false := Sort.swo_ltInt.irrefl x
theorem ltStr_irr (x : BL) : Sort.ltStr x x = false := Sort.swo_ltStr.irrefl x
section
variable {H : Hp} {id : Int} {dp mp qp hp : Option Addr} {dl dc ml mc ql qc hl hc : Nat} {x : Pt}
theorem patch_Needs.c {K : Option Addr → Nat → Nat → Hp → Prop} (h : PtS H id dp dl dc mp ml mc qp ql qc hp hl hc x) (hs : PtSm x) (hK : ∀ p l c H', Le H H' → Sl fU H' p l c (needsL x) → PtOk p → l ≤ 1000000000 → K p l c H') : patch_Needs.C id dp dl dc mp ml mc qp ql qc hp hl hc H K := by
  apply patch_Needs.of
  intro b hb
  have l1 := Le.upd (c := [.int .u32 id, .slice dp dl dc, .slice mp ml mc, .slice qp ql qc, .slice hp hl hc]) hb
  have d := D5.new (H := H) (b := b) (id := id) (dp := dp) (dl := dl) (dc := dc) (mp := mp) (ml := ml) (mc := mc) (qp := qp) (ql := ql) (qc := qc) (hp := hp) (hl := hl) (hc := hc)
  revert l1 d
  generalize upd H b [.int .u32 id, .slice dp dl dc, .slice mp ml mc, .slice qp ql qc, .slice hp hl hc] = H1
  intro l1 d
  obtain ⟨rfl, hd, hm, hq, hh⟩ := h
  have eh := hh.1
  have hsh := hs.hunks
  have bnd := ptNames_take hs
  have hh1 := HkH_le hh l1
  refine ldL_i d.2.2.2.2 ⟨fun p l c t Hx => ∃ i : Nat, t = (i : Nat) ∧ i ≤ hl ∧ Le H1 Hx ∧ Buf 1 H1 Hx p l c (((x.hunks.take i).flatMap hkNames).map fU), fun _ _ _ t _ => ((hl : Int) - t).toNat, ⟨0, rfl, Nat.zero_le _, Le.refl _, Buf.none⟩, ?_⟩
  rintro p l c t Hx ⟨i, rfl, gi, lx, hB⟩
  have hlen : l = ((x.hunks.take i).flatMap hkNames).length := by have := hB.1; simpa using this
  have hl3 := bnd i
  refine bcd (fun hlt => ?_) fun hlt => ?_
  · have hi : i < x.hunks.length := by omega
    have hsm := hs.each _ (List.getElem_mem hi)
    have hse := hsm.edges
    have hsk := hsm.kills
    refine rsH2 hh1 lx rfl hi fun ap al ac ep el ec kp kl kc s1 s2 s3 => ?_
    refine D4.mk fun q H2 hq2 dq l2 => ?_
    have ee := s2.len
    have ek := s3.len
    have hB2 := hB.le l2
    have hn := bNblkN hB hq2
    have hcutLe := bCutLe hB2 (lx.trans l2)
    have hB3 := bCut hB2
    have dqc : D4 (but H2 p) q (mkB x.hunks[i].path) ap al ac ep el ec kp kl kc := ⟨but_rd dq.1 hn, but_rd dq.2.1 hn, but_rd dq.2.2.1 hn, but_rd dq.2.2.2 hn⟩
    have l3 : Le (but H2 p) H2 := but_le
    revert hcutLe hB3 dqc l3
    generalize but H2 p = A
    intro hcutLe hB3 dqc l3
    refine ldL_i dq.2.2.1 ⟨fun p l c t Hx => ∃ j : Nat, t = (j : Nat) ∧ j ≤ el ∧ Le A Hx ∧ Buf 1 A Hx p l c (((x.hunks.take i).flatMap hkNames ++ (x.hunks[i].edges.take j).flatMap edN).map fU), fun _ _ _ t _ => ((el : Int) - t).toNat, ⟨0, rfl, Nat.zero_le _, l3, by simpa using hB3⟩, ?_⟩
    clear hB hB2 hB3 hlen hn l2 l3 dq hq2 s1
    rintro p l c t Hx ⟨j, rfl, gj, ly, hB⟩
    have hlen : l = ((x.hunks.take i).flatMap hkNames ++ (x.hunks[i].edges.take j).flatMap edN).length := by have := hB.1; simpa using this
    have hjl : ((x.hunks[i].edges.take j).flatMap edN).length ≤ (x.hunks[i].edges.take j).length * 2 := flatMap_lenLe fun e _ => by simp [edN]
    rw [List.length_append] at hlen
    rw [List.length_take] at hjl
    refine bcd (fun hlt2 => ?_) fun hlt2 => ?_
    · have hj : j < x.hunks[i].edges.length := by omega
      refine rsE (s2.le (hcutLe.trans ly)) rfl hj (DE.mk (e := x.hunks[i].edges[j]) fun q2 H3 hq3 de l3 => ldI_i de.1 (ldI_i de.2.2.1 ?_))
      refine bApp2 (hB.le l3) (ly.trans l3) (te := te_uint32) rfl rfl (by decide) rfl rfl (by simp [te_uint32]; omega) (fun p' c' H4 hB4 l4 => ?_)
      refine chk (by omega) ⟨⟨j + 1, by omega, by omega, l4, ?_⟩, by first | omega | (dsimp only; omega)⟩
      rw [flatMap_snoc hj, ← List.append_assoc, List.map_append]; exact hB4
    rw [List.take_of_length_le (show x.hunks[i].edges.length ≤ j by omega)] at hB
    have dqy := dqc.le ly
    refine ldL_i dqy.2.2.2 ⟨fun p l c t Hx => ∃ j : Nat, t = (j : Nat) ∧ j ≤ kl ∧ Le A Hx ∧ Buf 1 A Hx p l c (((x.hunks.take i).flatMap hkNames ++ (x.hunks[i].edges.flatMap edN ++ (x.hunks[i].kills.take j).map (·.p))).map fU), fun _ _ _ t _ => ((kl : Int) - t).toNat, ⟨0, rfl, Nat.zero_le _, ly, by simpa using hB⟩, ?_⟩
    clear hB hlen
    rintro p l c t Hx ⟨j, rfl, gj, lz, hB⟩
    have hlen : l = ((x.hunks.take i).flatMap hkNames ++ (x.hunks[i].edges.flatMap edN ++ (x.hunks[i].kills.take j).map (·.p))).length := by have := hB.1; simpa using this
    have hjl : (x.hunks[i].edges.flatMap edN).length ≤ x.hunks[i].edges.length * 2 := flatMap_lenLe fun e _ => by simp [edN]
    rw [List.length_append, List.length_append, List.length_map, List.length_take] at hlen
    refine bcd (fun hlt2 => ?_) fun hlt2 => ?_
    · have hj : j < x.hunks[i].kills.length := by omega
      refine rsL (s3.le (hcutLe.trans lz)) rfl hj (DL.mk (x := x.hunks[i].kills[j]) fun q2 H3 hq3 de l3 => ldI_i de.1 ?_)
      refine (hB.le l3).app1 (lz.trans l3) (te := te_uint32) (new := [fU x.hunks[i].kills[j].p]) rfl (by decide) rfl (by decide) rfl rfl (by simp [te_uint32]; omega) (fun p' c' H4 hB4 l4 _ => ?_)
      refine chk (by omega) ⟨⟨j + 1, by omega, by omega, l4, ?_⟩, by first | omega | (dsimp only; omega)⟩
      rw [map_snoc hj, ← List.append_assoc, ← List.append_assoc, List.map_append]
      rw [← List.append_assoc] at hB4; exact hB4
    · refine chk (by omega) ⟨⟨i + 1, by omega, by omega, hcutLe.trans lz, ?_⟩, by first | omega | (dsimp only; omega)⟩
      rw [List.take_of_length_le (show x.hunks[i].kills.length ≤ j by omega)] at hB
      rw [flatMap_snoc hi]; exact bBack hB hcutLe
  · rw [List.take_of_length_le (by omega)] at hB hlen
    rw [List.take_of_length_le (by omega)] at hl3
    have hnb : b ∉ blkL p := bNblk hB d.there
    have hS : Sl fU Hx p l c (ptNames x) := hB.sl
    have hfresh : ∀ y ∈ blkL p, H1 y = none := fun y hy => hB.fr y 0 (blkL_mem hB.zero hy)
    refine slices_DeleteFunc_uint32_uint32.c (q := fun y => decide (y = x.id)) hS (by omega) hB.pt (fun Hy y _ G my hk => ?_) fun l' H2 s2 m2 => ?_
    · show patch_Needs_1.C y b Hy G
      apply patch_Needs_1.of
      exact ldI_i (((d.le lx).mod my hnb).1) (hk Hy (Le.refl _))
    have el2 := s2.len
    have hfl : ((ptNames x).filter fun y => !decide (y = x.id)).length ≤ (ptNames x).length := List.length_filter_le _ _
    have hpl : (ptNames x).length = l := by unfold ptNames; omega
    refine slices_Sort_uint32_uint32.c s2 (by omega) fun H3 ys s3 hpm hsrt m3 => ?_
    have el3 := s3.len
    refine slices_Compact_uint32_uint32.c s3 (by omega) fun l4 H4 s4 m4 => ?_
    have el4 := s4.len
    have hdl := ddTo_len ys ys.length
    have e : ddTo ys ys.length = needsL x := dd_uniq ltInt_irr ltInt_tr (fun _ _ => ltInt_anti) hpm hsrt
    rw [e] at s4
    exact hK p l4 c H4 (l1.trans (((m2.trans m3).trans m4).le lx hfresh)) s4 hB.pt (by omega)
end
end Go.Proofs.Ytbpbgkpkkklipaa
namespace Go.Proofs.Ytbpbgkpkkklipaa
open Go.V
/-! ### Is it a patch -/
def depsB (x : Pt) : Bool := decide (x.deps.length ≤ 60) && (rsB Sort.ltInt x.deps && (!decide ((0 : Int) ∈ x.deps) && (!decide (x.id ∈ x.deps) && (needsL x).all fun y => decide (y ∈ x.deps))))
def hunksB (id : Int) : Int → BL → List Hk → Bool
  | _, _, [] => true
  | fr, last, h :: r => pathB h.path && (Sort.ltStr last h.path && (hunkB id fr h && hunksB id (fr + h.adds.length) h.path r))
def isB (x : Pt) : Bool := decide (¬ x.id = 0) && (decide (x.hunks.length ≤ 6) && (pathsB x.makes && (pathsB x.drops && (depsB x && ((!x.makes.any fun s => decide (s ∈ x.drops)) && hunksB x.id 0 [] x.hunks)))))
def linesN (l : List Hk) : Nat := (l.map fun h => h.adds.length).sum
def pathsL (x : Pt) : List BL := uniqL Sort.ltStr (x.makes ++ x.drops ++ x.hunks.map (·.path))
section
variable {H : Hp} {id : Int} {dp mp qp hp : Option Addr} {dl dc ml mc ql qc hl hc : Nat} {x : Pt}
theorem patch_deps.c {K : Bool → Hp → Prop} (h : PtS H id dp dl dc mp ml mc qp ql qc hp hl hc x) (hs : PtSm x) (hK : ∀ H', Le H H' → K (depsB x) H') : patch_deps.C id dp dl dc mp ml mc qp ql qc hp hl hc H K := by
  apply patch_deps.of
  intro b hb
  have l1 := Le.upd (c := [.int .u32 id, .slice dp dl dc, .slice mp ml mc, .slice qp ql qc, .slice hp hl hc]) hb
  have d := D5.new (H := H) (b := b) (id := id) (dp := dp) (dl := dl) (dc := dc) (mp := mp) (ml := ml) (mc := mc) (qp := qp) (ql := ql) (qc := qc) (hp := hp) (hl := hl) (hc := hc)
  revert l1 d
  generalize upd H b [.int .u32 id, .slice dp dl dc, .slice mp ml mc, .slice qp ql qc, .slice hp hl hc] = H1
  intro l1 d
  obtain ⟨rfl, hd, hm, hq, hh⟩ := h
  have ed := hd.len
  have hsd := hs.deps
  unfold depsB at hK
  refine ldL_i d.2.1 (bcd (fun hh => ?_) fun h1 => ?_)
  · have := hK _ l1
    rw [decide_eq_false (by omega)] at this; exact this
  rw [decide_eq_true (by omega)] at hK
  simp only [Bool.true_and] at hK
  refine ldL_i d.2.1 (patch_rises_uint32.c (lt := Sort.ltInt) (hd.le l1) (by omega) (fun Hx a b G _ hk => ?_) fun H2 l2 => bcn (fun hr => ?_) fun hr => ?_)
  · show cmp_Compare_uint32.C a b Hx G
    exact cmp_Compare_uint32.c (hk Hx (Le.refl _))
  · rw [hr] at hK; exact hK _ (l1.trans l2)
  rw [hr] at hK
  simp only [Bool.true_and] at hK
  refine ldL_i (d.le l2).2.1 (slices_Contains_uint32_uint32.c (hd.le (l1.trans l2)) (by omega) (bcd (fun h0 => ?_) fun h0 => ?_))
  · have := hK _ (l1.trans l2)
    rw [decide_eq_true h0] at this; exact this
  rw [decide_eq_false h0] at hK
  simp only [Bool.not_false, Bool.true_and] at hK
  refine ldL_i (d.le l2).2.1 (ldI_i (d.le l2).1 (slices_Contains_uint32_uint32.c (hd.le (l1.trans l2)) (by omega) (bcd (fun h0 => ?_) fun h0 => ?_)))
  · have := hK _ (l1.trans l2)
    rw [decide_eq_true h0] at this; exact this
  rw [decide_eq_false h0] at hK
  simp only [Bool.not_false, Bool.true_and] at hK
  unfold patch_deps.k1
  have d2 := d.le l2
  refine ldI_i d2.1 (ldL_i d2.2.1 (ldL_i d2.2.2.1 (ldL_i d2.2.2.2.1 (ldL_i d2.2.2.2.2 ?_))))
  refine patch_Needs.c (PtS.up ⟨rfl, hd, hm, hq, hh⟩ (l1.trans l2)) hs fun p l c H3 l3 s3 hp hl => ?_
  refine slices_ContainsFunc_uint32_uint32.c (q := fun y => !decide (y ∈ x.deps)) s3 hl (fun Hy y _ G ly hk => ?_) fun H4 l4 => ?_
  · show patch_deps_1.C y b Hy G
    apply patch_deps_1.of
    exact ldL_i (((d2.le l3).le ly).2.1) (slices_Contains_uint32_uint32.c (hd.le (((l1.trans l2).trans l3).trans ly)) (by omega) (hk Hy (Le.refl _)))
  · have e : (!(needsL x).any fun y => !decide (y ∈ x.deps)) = (needsL x).all fun y => decide (y ∈ x.deps) := by rw [Bool.eq_iff_iff]; simp
    rw [e]
    exact hK _ (((l1.trans l2).trans l3).trans l4)
theorem patch_Is.c {K : Bool → Hp → Prop} (h : PtS H id dp dl dc mp ml mc qp ql qc hp hl hc x) (hs : PtSm x) (hK : ∀ H', Le H H' → K (isB x) H') : patch_Is.C id dp dl dc mp ml mc qp ql qc hp hl hc H K := by
  apply patch_Is.of
  intro b hb
  have l1 := Le.upd (c := [.int .u32 id, .slice dp dl dc, .slice mp ml mc, .slice qp ql qc, .slice hp hl hc]) hb
  have d := D5.new (H := H) (b := b) (id := id) (dp := dp) (dl := dl) (dc := dc) (mp := mp) (ml := ml) (mc := mc) (qp := qp) (ql := ql) (qc := qc) (hp := hp) (hl := hl) (hc := hc)
  revert l1 d
  generalize upd H b [.int .u32 id, .slice dp dl dc, .slice mp ml mc, .slice qp ql qc, .slice hp hl hc] = H1
  intro l1 d
  obtain ⟨rfl, hd, hm, hq, hh⟩ := h
  have eh := hh.1
  have hsh := hs.hunks
  have em := hm.len
  have hsm := hs.makes
  have eq := hq.len
  have hsq := hs.drops
  unfold isB at hK
  refine ldI_i d.1 (bcd (fun h0 => ?_) fun h0 => ?_)
  · have := hK _ l1
    rw [decide_eq_false (fun h => h h0)] at this; exact this
  rw [decide_eq_true h0] at hK
  simp only [Bool.true_and] at hK
  refine ldL_i d.2.2.2.2 (bcd (fun h6 => ?_) fun h6 => ?_)
  · have := hK _ l1
    rw [decide_eq_false (by omega)] at this; exact this
  rw [decide_eq_true (by omega)] at hK
  simp only [Bool.true_and] at hK
  refine ldL_i d.2.2.1 (patch_paths.c (hm.le l1) (by omega) (fun s hs' => Nat.le_trans (hs.mtext s hs') (by decide)) fun H2 l2 => bcn (fun hr => ?_) fun hr => ?_)
  · rw [hr] at hK; exact hK _ (l1.trans l2)
  rw [hr] at hK
  simp only [Bool.true_and] at hK
  refine ldL_i (d.le l2).2.2.2.1 (patch_paths.c (hq.le (l1.trans l2)) (by omega) (fun s hs' => Nat.le_trans (hs.dtext s hs') (by decide)) fun H3 l3 => bcn (fun hr => ?_) fun hr => ?_)
  · rw [hr] at hK; exact hK _ ((l1.trans l2).trans l3)
  rw [hr] at hK
  simp only [Bool.true_and] at hK
  have d3 := (d.le l2).le l3
  refine ldI_i d3.1 (ldL_i d3.2.1 (ldL_i d3.2.2.1 (ldL_i d3.2.2.2.1 (ldL_i d3.2.2.2.2 ?_))))
  refine patch_deps.c (PtS.up ⟨rfl, hd, hm, hq, hh⟩ ((l1.trans l2).trans l3)) hs fun H4 l4 => bcn (fun hr => ?_) fun hr => ?_
  · rw [hr] at hK; exact hK _ (((l1.trans l2).trans l3).trans l4)
  rw [hr] at hK
  simp only [Bool.true_and] at hK
  have d4 := d3.le l4
  have l14 := ((l1.trans l2).trans l3).trans l4
  unfold patch_Is.k1
  refine ldL_i d4.2.2.1 (slices_ContainsFunc_string_string.c (q := fun s => decide (s ∈ x.drops)) (hm.le l14) (by omega) (fun Hy s _ G ly hk => ?_) fun H5 l5 => bc_i (fun hr => ?_) fun hr => ?_)
  · show patch_Is_1.C (mkB s) b Hy G
    apply patch_Is_1.of
    exact ldL_i ((d4.le ly).2.2.2.1) (slices_Contains_string_string.c (hq.le (l14.trans ly)) (by omega) (hk Hy (Le.refl _)))
  · rw [hr] at hK; exact hK _ (l14.trans l5)
  rw [hr] at hK
  simp only [Bool.not_false, Bool.true_and] at hK
  have l15 := l14.trans l5
  have hh5 := HkH_le hh l15
  refine ldL_i (d4.le l5).2.2.2.2 ⟨fun fr last t Hx => ∃ (i : Nat) (s : BL), t = (i : Nat) ∧ i ≤ hl ∧ Le H5 Hx ∧ last = mkB s ∧ (0 ≤ fr ∧ fr ≤ i * 1000) ∧ hunksB x.id 0 [] x.hunks = hunksB x.id fr s (x.hunks.drop i), fun _ _ t _ => ((hl : Int) - t).toNat, ⟨0, [], rfl, Nat.zero_le _, Le.refl _, rfl, ⟨by decide, by decide⟩, rfl⟩, ?_⟩
  rintro fr last t Hx ⟨i, s, rfl, gi, lx, rfl, hfr, he⟩
  refine bcd (fun hlt => ?_) fun hlt => ?_
  · have hi : i < x.hunks.length := by omega
    have hsmi := hs.each _ (List.getElem_mem hi)
    rw [List.drop_eq_getElem_cons hi, hunksB] at he
    refine rsH2 hh5 lx rfl hi fun ap al ac ep el ec kp kl kc s1 s2 s3 => ?_
    refine D4.mk fun q H6 hq6 dq l6 => ldS_i dq.1 (patch_IsPath.c (Nat.le_trans hsmi.path (by decide)) (bc_i (fun hp => ?_) fun hp => ?_))
    · rw [hp] at he
      simp only [Bool.true_and] at he
      refine ldS_i dq.1 ?_
      rw [ltStr_gt]
      refine bc_i (fun hlast => ?_) fun hlast => ?_
      · rw [hlast] at he
        simp only [Bool.true_and] at he
        refine ldI_i (((d4.le l5).le lx).le l6).1 (ldS_i dq.1 (ldL_i dq.2.1 (ldL_i dq.2.2.1 (ldL_i dq.2.2.2 ?_))))
        have l56 := lx.trans l6
        refine patch_isHunk.c (s1.le l56) (s2.le l56) (s3.le l56) hsmi (by omega) fun H7 l7 => ?_
        unfold patch_Is.k2
        refine bc_i (fun hu => ?_) fun hu => ?_
        · rw [hu] at he
          simp only [Bool.true_and] at he
          have e1 := s1.len
          have e2 := hsmi.adds
          have dq7 := dq.le l7
          refine ldL_i dq7.2.1 (chk (by omega) (ldS_i dq7.1 (chk (by omega) ⟨⟨i + 1, x.hunks[i].path, by omega, by omega, l56.trans l7, rfl, by omega, ?_⟩, by first | omega | (dsimp only; omega)⟩)))
          rw [he, e1]
        · rw [hu] at he
          rw [he] at hK
          exact hK _ ((l15.trans l56).trans l7)
      · rw [hlast] at he
        rw [he] at hK
        unfold patch_Is.k2
        exact hK _ (l15.trans (lx.trans l6))
    · rw [hp] at he
      rw [he] at hK
      unfold patch_Is.k2
      exact hK _ (l15.trans (lx.trans l6))
  · rw [List.drop_eq_nil_of_le (by omega), hunksB] at he
    rw [he] at hK
    exact hK _ (l15.trans lx)
theorem linesN_snoc {l : List Hk} {i : Nat} (hi : i < l.length) : linesN (l.take (i + 1)) = linesN (l.take i) + l[i].adds.length := by unfold linesN; rw [map_snoc hi, List.sum_append]; simp
theorem linesN_le {l : List Hk} (h : ∀ y ∈ l, y.adds.length ≤ 1000) : linesN l ≤ l.length * 1000 := by
  induction l with
  | nil => simp [linesN]
  | cons y l ih =>
    have h1 := ih fun z hz => h z (List.mem_cons_of_mem _ hz)
    have h2 := h y (by simp)
    unfold linesN at h1 ⊢
    rw [List.map_cons, List.sum_cons, List.length_cons, Nat.add_mul]; omega
end
end Go.Proofs.Ytbpbgkpkkklipaa
namespace Go.Proofs.Ytbpbgkpkkklipaa
open Go.V
/-! ### Are they alike; what is cloned -/
section
variable {H : Hp} {K : Bool → Hp → Prop}
theorem patch_sameHunk.c {g h : Hk} {ap ep kp ap2 ep2 kp2 : Option Addr} {al ac el ec kl kc al2 ac2 el2 ec2 kl2 kc2 : Nat} (ha : Sl sv H ap al ac g.adds) (he : Sn 4 edC H ep el ec g.edges) (hk : Sn 2 lidC H kp kl kc g.kills)
    (ha2 : Sl sv H ap2 al2 ac2 h.adds) (he2 : Sn 4 edC H ep2 el2 ec2 h.edges) (hk2 : Sn 2 lidC H kp2 kl2 kc2 h.kills) (hsm : HkSm g) (hK : ∀ H', Le H H' → K (decide (g = h)) H') :
    patch_sameHunk.C (mkB g.path) ap al ac ep el ec kp kl kc (mkB h.path) ap2 al2 ac2 ep2 el2 ec2 kp2 kl2 kc2 H K := by
  apply patch_sameHunk.of
  have e1 := ha.len
  have e2 := he.len
  have e3 := hk.len
  have s1 := hsm.adds
  have s2 := hsm.edges
  have s3 := hsm.kills
  intro b hb b2 hb2
  have l1 := Le.upd (c := [.string (mkB g.path), .slice ap al ac, .slice ep el ec, .slice kp kl kc]) hb
  have l2 := Le.upd (c := [.string (mkB h.path), .slice ap2 al2 ac2, .slice ep2 el2 ec2, .slice kp2 kl2 kc2]) hb2
  have d1 := (D4.new (H := H) (b := b) (f := mkB g.path) (ap := ap) (al := al) (ac := ac) (ep := ep) (el := el) (ec := ec) (kp := kp) (kl := kl) (kc := kc)).le l2
  have d2 := D4.new (H := upd H b [.string (mkB g.path), .slice ap al ac, .slice ep el ec, .slice kp kl kc]) (b := b2) (f := mkB h.path) (ap := ap2) (al := al2) (ac := ac2) (ep := ep2) (el := el2) (ec := ec2) (kp := kp2) (kl := kl2) (kc := kc2)
  have l0 := l1.trans l2
  revert l0 d1 d2
  generalize upd (upd H b [.string (mkB g.path), .slice ap al ac, .slice ep el ec, .slice kp kl kc]) b2 [.string (mkB h.path), .slice ap2 al2 ac2, .slice ep2 el2 ec2, .slice kp2 kl2 kc2] = H2
  intro d1 d2 l0
  have hK := hK _ l0
  have no : (g = h → False) → K false H2 := fun hn => by rw [decide_eq_false hn] at hK; exact hK
  refine ldS_i d1.1 (ldS_i d2.1 (bcd (fun hp => ?_) fun hp => no fun e => hp (by rw [e])))
  refine ldL_i d1.2.1 (ldL_i d2.2.1 (slices_Equal_string_string.c (ha.le l0) (ha2.le l0) (by omega) (bcd (fun hq => ?_) fun hq => no fun e => hq (by rw [e]))))
  refine ldL_i d1.2.2.1 (ldL_i d2.2.2.1 (slices_Equal_api_Edge_api_Edge.c (he.le l0) (he2.le l0) (by omega) (bcd (fun hr => ?_) fun hr => no fun e => hr (by rw [e]))))
  refine ldL_i d1.2.2.2 (ldL_i d2.2.2.2 (slices_Equal_api_LineID_api_LineID.c (hk.le l0) (hk2.le l0) (by omega) ?_))
  have : decide (g.kills = h.kills) = decide (g = h) := decide_eq_decide.2 ⟨fun hs => by
    have := mkB_eq hp
    cases g; cases h; simp_all, fun e => by rw [e]⟩
  rw [this]; exact hK
theorem slices_EqualFunc_api_Hunk_api_Hunk_api_Hunk_api_Hunk.c {f : Value} {p q : Option Addr} {l c m d : Nat} {gs hs : List Hk} (h1 : HkH H p l c gs) (h2 : HkH H q m d hs) (hl : l ≤ 1000000000)
    (hf : ∀ Hx g h ap al ac ep el ec kp kl kc ap2 al2 ac2 ep2 el2 ec2 kp2 kl2 kc2 (G : Bool → Hp → Prop), g ∈ gs → Le H Hx → Sl sv Hx ap al ac g.adds → Sn 4 edC Hx ep el ec g.edges → Sn 2 lidC Hx kp kl kc g.kills → Sl sv Hx ap2 al2 ac2 h.adds → Sn 4 edC Hx ep2 el2 ec2 h.edges → Sn 2 lidC Hx kp2 kl2 kc2 h.kills → (∀ H', Le Hx H' → G (decide (g = h)) H') →
      CallV prog f [.agg ⟨[.string (mkB g.path), .slice ap al ac, .slice ep el ec, .slice kp kl kc]⟩, .agg ⟨[.string (mkB h.path), .slice ap2 al2 ac2, .slice ep2 el2 ec2, .slice kp2 kl2 kc2]⟩] Hx fun v H' => liftB v fun r => G r H')
    (hK : ∀ H', Le H H' → K (decide (gs = hs)) H') : slices_EqualFunc_api_Hunk_api_Hunk_api_Hunk_api_Hunk.C p l c q m d f H K := by
  apply slices_EqualFunc_api_Hunk_api_Hunk_api_Hunk_api_Hunk.of
  have e1 := h1.1
  have e2 := h2.1
  refine bcd (fun hn => ?_) fun hn => ?_
  · have := hK _ (Le.refl _)
    rw [decide_eq_false (fun e => hn (by rw [e1, e2, e]))] at this; exact this
  have hlen : gs.length = hs.length := by omega
  refine ⟨fun t Hx => ∃ i : Nat, t = (i : Nat) ∧ i ≤ l ∧ Le H Hx ∧ gs.take i = hs.take i, fun t _ => ((l : Int) - t).toNat, ⟨0, rfl, Nat.zero_le _, Le.refl _, rfl⟩, ?_⟩
  rintro t Hx ⟨i, rfl, gi, lx, he⟩
  refine bcd (fun hlt => ?_) fun hlt => ?_
  · have hi : i < gs.length := by omega
    have hi2 : i < hs.length := by omega
    refine rsH2 h1 lx rfl hi fun ap al ac ep el ec kp kl kc s1 s2 s3 => D4.mk fun b H2 hb d l2 => ?_
    refine rsH2 h2 (lx.trans l2) rfl hi2 fun ap2 al2 ac2 ep2 el2 ec2 kp2 kl2 kc2 t1 t2 t3 => D4.mk fun b2 H3 hb2 d2 l3 => ?_
    have d := d.le l3
    have l03 := (lx.trans l2).trans l3
    refine ldS_i d.1 (ldL_i d.2.1 (ldL_i d.2.2.1 (ldL_i d.2.2.2 (ldS_i d2.1 (ldL_i d2.2.1 (ldL_i d2.2.2.1 (ldL_i d2.2.2.2 ?_)))))))
    refine hf H3 gs[i] hs[i] _ _ _ _ _ _ _ _ _ _ _ _ _ _ _ _ _ _ _ (List.getElem_mem hi) l03 (s1.le l03) (s2.le l03) (s3.le l03) (t1.le l03) (t2.le l03) (t3.le l03) fun H4 l4 => bcn (fun hb => ?_) fun hb => ?_
    · have := hK _ (l03.trans l4)
      have hne : ¬ gs = hs := fun e => by
        subst e; simp at hb
      rw [decide_eq_false hne] at this; exact this
    · refine chk (by omega) ⟨⟨i + 1, by omega, by omega, l03.trans l4, ?_⟩, by first | omega | (dsimp only; omega)⟩
      rw [List.take_succ_eq_append_getElem hi, List.take_succ_eq_append_getElem hi2, he, of_decide_eq_true hb]
  · rw [List.take_of_length_le (by omega), List.take_of_length_le (by omega)] at he
    have := hK _ lx
    rw [decide_eq_true he] at this; exact this
theorem patch_Same.c {x y : Pt} {id id2 : Int} {dp mp qp hp dp2 mp2 qp2 hp2 : Option Addr} {dl dc ml mc ql qc hl hc dl2 dc2 ml2 mc2 ql2 qc2 hl2 hc2 : Nat} (h : PtS H id dp dl dc mp ml mc qp ql qc hp hl hc x) (h2 : PtS H id2 dp2 dl2 dc2 mp2 ml2 mc2 qp2 ql2 qc2 hp2 hl2 hc2 y) (hs : PtSm x) (hK : ∀ H', Le H H' → K (decide (x = y)) H') :
    patch_Same.C id dp dl dc mp ml mc qp ql qc hp hl hc id2 dp2 dl2 dc2 mp2 ml2 mc2 qp2 ql2 qc2 hp2 hl2 hc2 H K := by
  apply patch_Same.of
  intro b hb b2 hb2
  have l1 := Le.upd (c := [.int .u32 id, .slice dp dl dc, .slice mp ml mc, .slice qp ql qc, .slice hp hl hc]) hb
  have l2 := Le.upd (c := [.int .u32 id2, .slice dp2 dl2 dc2, .slice mp2 ml2 mc2, .slice qp2 ql2 qc2, .slice hp2 hl2 hc2]) hb2
  have d1 := (D5.new (H := H) (b := b) (id := id) (dp := dp) (dl := dl) (dc := dc) (mp := mp) (ml := ml) (mc := mc) (qp := qp) (ql := ql) (qc := qc) (hp := hp) (hl := hl) (hc := hc)).le l2
  have d2 := D5.new (H := upd H b [.int .u32 id, .slice dp dl dc, .slice mp ml mc, .slice qp ql qc, .slice hp hl hc]) (b := b2) (id := id2) (dp := dp2) (dl := dl2) (dc := dc2) (mp := mp2) (ml := ml2) (mc := mc2) (qp := qp2) (ql := ql2) (qc := qc2) (hp := hp2) (hl := hl2) (hc := hc2)
  have l0 := l1.trans l2
  revert l0 d1 d2
  generalize upd (upd H b [.int .u32 id, .slice dp dl dc, .slice mp ml mc, .slice qp ql qc, .slice hp hl hc]) b2 [.int .u32 id2, .slice dp2 dl2 dc2, .slice mp2 ml2 mc2, .slice qp2 ql2 qc2, .slice hp2 hl2 hc2] = H2
  intro d1 d2 l0
  obtain ⟨rfl, hd, hm, hq, hh⟩ := h
  obtain ⟨rfl, hd2, hm2, hq2, hh2⟩ := h2
  have e1 := hd.len
  have e2 := hm.len
  have e3 := hq.len
  have e4 := hh.1
  have s1 := hs.deps
  have s2 := hs.makes
  have s3 := hs.drops
  have s4 := hs.hunks
  have no : (x = y → False) → K false H2 := fun hn => by have := hK _ l0; rw [decide_eq_false hn] at this; exact this
  refine ldI_i d1.1 (ldI_i d2.1 (bcd (fun j0 => ?_) fun j0 => no fun e => j0 (by rw [e])))
  refine ldL_i d1.2.1 (ldL_i d2.2.1 (slices_Equal_uint32_uint32.c (hd.le l0) (hd2.le l0) (by omega) (bcd (fun j1 => ?_) fun j1 => no fun e => j1 (by rw [e]))))
  refine ldL_i d1.2.2.1 (ldL_i d2.2.2.1 (slices_Equal_string_string.c (hm.le l0) (hm2.le l0) (by omega) (bcd (fun j2 => ?_) fun j2 => no fun e => j2 (by rw [e]))))
  refine ldL_i d1.2.2.2.1 (ldL_i d2.2.2.2.1 (slices_Equal_string_string.c (hq.le l0) (hq2.le l0) (by omega) (bcd (fun j3 => ?_) fun j3 => no fun e => j3 (by rw [e]))))
  refine ldL_i d1.2.2.2.2 (ldL_i d2.2.2.2.2 (slices_EqualFunc_api_Hunk_api_Hunk_api_Hunk_api_Hunk.c (HkH_le hh l0) (HkH_le hh2 l0) (by omega) ?_ fun H3 l3 => ?_))
  · intro Hx g h ap al ac ep el ec kp kl kc ap2 al2 ac2 ep2 el2 ec2 kp2 kl2 kc2 G hg lx a1 a2 a3 b1 b2 b3 hG
    show patch_sameHunk.C (mkB g.path) ap al ac ep el ec kp kl kc (mkB h.path) ap2 al2 ac2 ep2 el2 ec2 kp2 kl2 kc2 Hx G
    exact patch_sameHunk.c a1 a2 a3 b1 b2 b3 (hs.each g hg) hG
  · have : decide (x.hunks = y.hunks) = decide (x = y) := decide_eq_decide.2 ⟨fun h => by cases x; cases y; simp_all, fun e => by rw [e]⟩
    rw [this]; exact hK _ (l0.trans l3)
end
section
variable {H : Hp} {K : Option Addr → Nat → Nat → Hp → Prop} {p : Option Addr} {l cc : Nat}
theorem slices_Clone_uint32_uint32.c {xs : List Int} (h : Sl fU H p l cc xs) (hl : l ≤ 1000000) (hK : ∀ p' c' H', Le H H' → Buf 1 H H' p' l c' (xs.map fU) → K p' l c' H') : slices_Clone_uint32_uint32.C p l cc H K := by
  apply slices_Clone_uint32_uint32.of
  have e := h.len
  refine bcd (fun hn => ?_) fun hn b hb => ?_
  · have h0 := h.nil0 hn
    have : xs = [] := List.length_eq_zero_iff.1 (by omega)
    subst this; rw [h0] at hK; exact hK _ _ _ (Le.refl _) Buf.none
  · have hB : Buf 1 H (upd H b []) (some ⟨b, 0, none⟩) 0 0 [] := Buf.empty hb (by unfold upd; rw [if_pos rfl])
    refine hB.appN (n := l) (new := xs.map fU) rfl (by decide) rfl (by decide) (by simp; omega) (by simp [isCell]) (by simp [te_uint32]; omega) (Le.upd hb) (fun G hG => sl_src (h.le (Le.upd hb)) G hG) (fun p' c' H' hB' l' _ => ?_)
    rw [Nat.zero_add] at hB' ⊢; exact hK _ _ _ l' hB'
theorem slices_Clone_string_string.c {xs : List BL} (h : Sl sv H p l cc xs) (hl : l ≤ 1000000) (hK : ∀ p' c' H', Le H H' → Buf 1 H H' p' l c' (xs.map sv) → K p' l c' H') : slices_Clone_string_string.C p l cc H K := by
  apply slices_Clone_string_string.of
  have e := h.len
  refine bcd (fun hn => ?_) fun hn b hb => ?_
  · have h0 := h.nil0 hn
    have : xs = [] := List.length_eq_zero_iff.1 (by omega)
    subst this; rw [h0] at hK; exact hK _ _ _ (Le.refl _) Buf.none
  · have hB : Buf 1 H (upd H b []) (some ⟨b, 0, none⟩) 0 0 [] := Buf.empty hb (by unfold upd; rw [if_pos rfl])
    refine hB.appN (n := l) (new := xs.map sv) rfl (by decide) rfl (by decide) (by simp; omega) (by simp [sv, isCell]) (by simp [te_string]; omega) (Le.upd hb) (fun G hG => sl_src (h.le (Le.upd hb)) G hG) (fun p' c' H' hB' l' _ => ?_)
    rw [Nat.zero_add] at hB' ⊢; exact hK _ _ _ l' hB'
theorem slices_Clone_api_Edge_api_Edge.c {xs : List Ed} (h : Sn 4 edC H p l cc xs) (hl : l ≤ 1000000) (hK : ∀ p' c' H', Le H H' → Buf 4 H H' p' l c' (xs.flatMap edC) → K p' l c' H') : slices_Clone_api_Edge_api_Edge.C p l cc H K := by
  apply slices_Clone_api_Edge_api_Edge.of
  have e := h.len
  refine bcd (fun hn => ?_) fun hn b hb => ?_
  · have h0 := h.nil0 hn
    have : xs = [] := List.length_eq_zero_iff.1 (by omega)
    subst this; rw [h0] at hK; exact hK _ _ _ (Le.refl _) Buf.none
  · have hB : Buf 4 H (upd H b []) (some ⟨b, 0, none⟩) 0 0 [] := Buf.empty hb (by unfold upd; rw [if_pos rfl])
    refine hB.appN (n := l) (new := xs.flatMap edC) rfl (by decide) rfl (by decide) (by rw [flatMap_len edC_len]; omega) (by simp [edC, isCell]) (by simp [te_api_Edge]; omega) (Le.upd hb) (fun G hG => sn_src (by decide) edC_len (h.le (Le.upd hb)) G hG) (fun p' c' H' hB' l' _ => ?_)
    rw [Nat.zero_add] at hB' ⊢; exact hK _ _ _ l' hB'
theorem slices_Clone_api_LineID_api_LineID.c {xs : List Lid} (h : Sn 2 lidC H p l cc xs) (hl : l ≤ 1000000) (hK : ∀ p' c' H', Le H H' → Buf 2 H H' p' l c' (xs.flatMap lidC) → K p' l c' H') : slices_Clone_api_LineID_api_LineID.C p l cc H K := by
  apply slices_Clone_api_LineID_api_LineID.of
  have e := h.len
  refine bcd (fun hn => ?_) fun hn b hb => ?_
  · have h0 := h.nil0 hn
    have : xs = [] := List.length_eq_zero_iff.1 (by omega)
    subst this; rw [h0] at hK; exact hK _ _ _ (Le.refl _) Buf.none
  · have hB : Buf 2 H (upd H b []) (some ⟨b, 0, none⟩) 0 0 [] := Buf.empty hb (by unfold upd; rw [if_pos rfl])
    refine hB.appN (n := l) (new := xs.flatMap lidC) rfl (by decide) rfl (by decide) (by rw [flatMap_len lidC_len]; omega) (by simp [lidC, isCell]) (by simp [te_api_LineID]; omega) (Le.upd hb) (fun G hG => sn_src (by decide) lidC_len (h.le (Le.upd hb)) G hG) (fun p' c' H' hB' l' _ => ?_)
    rw [Nat.zero_add] at hB' ⊢; exact hK _ _ _ l' hB'
/-- Where a hunk's rows lie. -/
structure HD where
  ap : Option Addr
  al : Nat
  ac : Nat
  ep : Option Addr
  el : Nat
  ec : Nat
  kp : Option Addr
  kl : Nat
  kc : Nat
def hdC (x : BL × HD) : List Value := [sv x.1, .slice x.2.ap x.2.al x.2.ac, .slice x.2.ep x.2.el x.2.ec, .slice x.2.kp x.2.kl x.2.kc]
theorem hdC_len (x : BL × HD) : (hdC x).length = 4 := rfl
theorem slices_Clone_api_Hunk_api_Hunk.c {xs : List (BL × HD)} (h : Sn 4 hdC H p l cc xs) (hl : l ≤ 1000000) (hK : ∀ p' c' H', Le H H' → Buf 4 H H' p' l c' (xs.flatMap hdC) → K p' l c' H') : slices_Clone_api_Hunk_api_Hunk.C p l cc H K := by
  apply slices_Clone_api_Hunk_api_Hunk.of
  have e := h.len
  refine bcd (fun hn => ?_) fun hn b hb => ?_
  · have h0 := h.nil0 hn
    have : xs = [] := List.length_eq_zero_iff.1 (by omega)
    subst this; rw [h0] at hK; exact hK _ _ _ (Le.refl _) Buf.none
  · have hB : Buf 4 H (upd H b []) (some ⟨b, 0, none⟩) 0 0 [] := Buf.empty hb (by unfold upd; rw [if_pos rfl])
    refine hB.appN (n := l) (new := xs.flatMap hdC) rfl (by decide) rfl (by decide) (by rw [flatMap_len hdC_len]; omega) (by simp [hdC, isCell, sv]) (by simp [te_api_Hunk]; omega) (Le.upd hb) (fun G hG => sn_src (by decide) hdC_len (h.le (Le.upd hb)) G hG) (fun p' c' H' hB' l' _ => ?_)
    rw [Nat.zero_add] at hB' ⊢; exact hK _ _ _ l' hB'
end
end Go.Proofs.Ytbpbgkpkkklipaa
namespace Go.Proofs.Ytbpbgkpkkklipaa
open Go.V
/-! ### A copy -/
def hdP (x : BL × HD) : List (Option Addr) := [x.2.ap, x.2.ep, x.2.kp]
def OwnH (A H : Hp) (h : Hk) (d : HD) : Prop := Buf 1 A H d.ap d.al d.ac (h.adds.map sv) ∧ Buf 4 A H d.ep d.el d.ec (h.edges.flatMap edC) ∧ Buf 2 A H d.kp d.kl d.kc (h.kills.flatMap lidC)
def RdH (H : Hp) (h : Hk) (d : HD) : Prop := Sl sv H d.ap d.al d.ac h.adds ∧ Sn 4 edC H d.ep d.el d.ec h.edges ∧ Sn 2 lidC H d.kp d.kl d.kc h.kills
def There (H : Hp) (p : Option Addr) : Prop := ∀ b o, p = some ⟨b, o, none⟩ → H b ≠ none
def Ok (H : Hp) (L : List (Option Addr)) : Prop := L.Pairwise Apart ∧ ∀ q ∈ L, There H q
def OwnR (A H : Hp) (hp : Option Addr) (hl hc : Nat) (hs : List Hk) (zs : List (BL × HD)) : Prop := zs.length = hs.length ∧ Buf 4 A H hp hl hc (zs.flatMap hdC) ∧ ∀ j (h1 : j < hs.length) (h2 : j < zs.length), zs[j].1 = hs[j].path ∧ OwnH A H hs[j] zs[j].2
/-- A patch in memory of its own. -/
def Own (A H : Hp) (id : Int) (dp : Option Addr) (dl dc : Nat) (mp : Option Addr) (ml mc : Nat) (qp : Option Addr) (ql qc : Nat) (hp : Option Addr) (hl hc : Nat) (x : Pt) (zs : List (BL × HD)) : Prop :=
  id = x.id ∧ Buf 1 A H dp dl dc (x.deps.map fU) ∧ Buf 1 A H mp ml mc (x.makes.map sv) ∧ Buf 1 A H qp ql qc (x.drops.map sv) ∧ OwnR A H hp hl hc x.hunks zs ∧ (dp :: mp :: qp :: hp :: zs.flatMap hdP).Pairwise Apart
section
variable {A A' H H' : Hp} {p : Option Addr} {l cc : Nat} {O : List Nat}
theorem apThere {q : Option Addr} (h : There H p) (hn : New H q) : Apart p q := fun b o o' e e' => h b o e (hn b o' e')
theorem bThere {s : Nat} {cells : List Value} (h : Buf s A H p l cc cells) : There H p := fun _ _ e => h.there e
theorem There.was (h : There H p) (hw : Was H H') : There H' p := fun b o e hn => h b o e (hw b hn)
theorem Ok.was {L : List (Option Addr)} (h : Ok H L) (hw : Was H H') : Ok H' L := ⟨h.1, fun q hq => (h.2 q hq).was hw⟩
theorem Ok.snoc {L : List (Option Addr)} (h : Ok H L) (hn : New H p) (ht : There H' p) (hl : Le H H') : Ok H' (L ++ [p]) := by
  refine ⟨List.pairwise_append.2 ⟨h.1, by simp, fun a ha b hb => ?_⟩, fun q hq => ?_⟩
  · simp at hb; subst hb; exact apThere (h.2 a ha) hn
  · rcases List.mem_append.1 hq with hq | hq
    · exact (h.2 q hq).was hl.was
    · simp at hq; subst hq; exact ht
theorem bModA {s : Nat} {cells : List Value} {b : Nat} (h : Buf s A H p l cc cells) (hm : Mod [b] H H') (ha : Apart (some ⟨b, 0, none⟩) p) : Buf s A H' p l cc cells := h.mod hm fun b' o e hb => by
  simp at hb; subst hb; exact ha _ _ _ rfl e
theorem OwnH.le {h : Hk} {d : HD} (x : OwnH A H h d) (hl : Le H H') : OwnH A H' h d := ⟨x.1.le hl, x.2.1.le hl, x.2.2.le hl⟩
theorem OwnH.mod {h : Hk} {z : BL × HD} {b : Nat} (x : OwnH A H h z.2) (hm : Mod [b] H H') (ha : ∀ q ∈ hdP z, Apart (some ⟨b, 0, none⟩) q) : OwnH A H' h z.2 :=
  ⟨bModA x.1 hm (ha _ (by simp [hdP])), bModA x.2.1 hm (ha _ (by simp [hdP])), bModA x.2.2 hm (ha _ (by simp [hdP]))⟩
theorem OwnH.back {h : Hk} {d : HD} (x : OwnH A' H h d) (hl : Le A A') : OwnH A H h d := ⟨bBack x.1 hl, bBack x.2.1 hl, bBack x.2.2 hl⟩
theorem OwnH.rdH {h : Hk} {d : HD} (x : OwnH A H h d) : RdH H h d := ⟨x.1.sl, x.2.1.sn edC_len (by decide), x.2.2.sn lidC_len (by decide)⟩
theorem HkH.rows {hs : List Hk} (h : HkH H p l cc hs) : ∃ zs : List (BL × HD), zs.length = hs.length ∧ Sn 4 hdC H p l cc zs ∧ ∀ j (h1 : j < hs.length) (h2 : j < zs.length), zs[j].1 = hs[j].path ∧ RdH H hs[j] zs[j].2 := by
  obtain ⟨e, hc, h0 | ⟨b, o, rfl, hh⟩⟩ := h
  · subst h0; exact ⟨[], rfl, ⟨e, hc, .inl rfl⟩, fun j h1 => by simp at h1⟩
  · have hh' : ∀ i : Fin hs.length, ∃ d : HD, (∀ j v, (hdC (hs[i].path, d))[j]? = some v → rd H b (o + i * 4 + j) = some v) ∧ RdH H hs[i] d := fun i => by
      obtain ⟨ap, al, ac, ep, el, ec, kp, kl, kc, h1, h2, h3, h4, h5, h6, h7⟩ := hh i i.2
      refine ⟨⟨ap, al, ac, ep, el, ec, kp, kl, kc⟩, fun j v hv => ?_, h5, h6, h7⟩
      match j, hv with
      | 0, hv => simp [hdC] at hv; subst hv; exact h1
      | 1, hv => simp [hdC] at hv; subst hv; exact h2
      | 2, hv => simp [hdC] at hv; subst hv; exact h3
      | 3, hv => simp [hdC] at hv; subst hv; exact h4
      | j + 4, hv => simp [hdC] at hv
    obtain ⟨f, hf⟩ := Classical.skolem.1 hh'
    refine ⟨List.ofFn fun i : Fin hs.length => (hs[i].path, f i), by simp, ⟨by simp; exact e, hc, .inr ⟨b, o, rfl, fun i hi j v hv => ?_⟩⟩, fun j h1 h2 => ?_⟩
    · have hi' : i < hs.length := by simpa using hi
      rw [List.getElem_ofFn] at hv
      exact (hf ⟨i, hi'⟩).1 j v hv
    · rw [List.getElem_ofFn]
      exact ⟨rfl, (hf ⟨j, h1⟩).2⟩
theorem HkH.of {hs : List Hk} {zs : List (BL × HD)} (hz : zs.length = hs.length) (h : Sn 4 hdC H p l cc zs) (hh : ∀ j (h1 : j < hs.length) (h2 : j < zs.length), zs[j].1 = hs[j].path ∧ RdH H hs[j] zs[j].2) : HkH H p l cc hs := by
  obtain ⟨e, hc, h0 | ⟨b, o, rfl, hr⟩⟩ := h
  · subst h0
    have : hs = [] := List.length_eq_zero_iff.1 (by rw [← hz]; rfl)
    subst this
    exact ⟨e, hc, .inl rfl⟩
  · refine ⟨by omega, hc, .inr ⟨b, o, rfl, fun i hi => ?_⟩⟩
    obtain ⟨e1, e2, e3, e4⟩ := hh i hi (by omega)
    have r := hr i (by omega)
    exact ⟨_, _, _, _, _, _, _, _, _, by rw [← e1]; exact r 0 _ rfl, r 1 _ rfl, r 2 _ rfl, r 3 _ rfl, e2, e3, e4⟩
theorem OwnR.hkH {hs : List Hk} {zs : List (BL × HD)} (h : OwnR A H p l cc hs zs) : HkH H p l cc hs := HkH.of h.1 (h.2.1.sn hdC_len (by decide)) fun j h1 h2 => ⟨(h.2.2 j h1 h2).1, (h.2.2 j h1 h2).2.rdH⟩
theorem Own.pt {id : Int} {dp mp qp hp : Option Addr} {dl dc ml mc ql qc hl hc : Nat} {x : Pt} {zs : List (BL × HD)} (h : Own A H id dp dl dc mp ml mc qp ql qc hp hl hc x zs) : PtS H id dp dl dc mp ml mc qp ql qc hp hl hc x := ⟨h.1, h.2.1.sl, h.2.2.1.sl, h.2.2.2.1.sl, h.2.2.2.2.1.hkH⟩
theorem rsD {zs : List (BL × HD)} (h : Sn 4 hdC H p l cc zs) {k : Nat} {e : Int} (he : e = (k : Int)) (hk : k < zs.length) {F : ByteArray → Option Addr → Nat → Nat → Option Addr → Nat → Nat → Option Addr → Nat → Nat → Prop}
    (hF : F (mkB zs[k].1) zs[k].2.ap zs[k].2.al zs[k].2.ac zs[k].2.ep zs[k].2.el zs[k].2.ec zs[k].2.kp zs[k].2.kl zs[k].2.kc) :
    IDX e l fun k => NIL p fun b o => ldS (rd H b (o + (k * 4))) fun x => ldL (rd H b ((o + (k * 4)) + 1)) fun ap al ac => ldL (rd H b (((o + (k * 4)) + 1) + 1)) fun ep el ec => ldL (rd H b ((((o + (k * 4)) + 1) + 1) + 1)) fun kp kl kc => F x ap al ac ep el ec kp kl kc := by
  have hl := h.len
  obtain ⟨b, o, rfl, hh⟩ := h.at hk
  exact idxN k he (by omega) (nil (ldS_i (hh k hk 0 _ rfl) (ldL_i (hh k hk 1 _ rfl) (ldL_i (hh k hk 2 _ rfl) (ldL_i (hh k hk 3 _ rfl) hF)))))
theorem hd_set : ∀ (zs : List (BL × HD)) (i : Nat) (h : i < zs.length) (d : HD), (((zs.flatMap hdC).set (i * 4 + 1) (.slice d.ap d.al d.ac)).set (i * 4 + 2) (.slice d.ep d.el d.ec)).set (i * 4 + 3) (.slice d.kp d.kl d.kc) = (zs.set i (zs[i].1, d)).flatMap hdC
  | z :: zs, 0, _, d => by simp [hdC]
  | z :: zs, i + 1, h, d => by
    have e : ∀ k, (i + 1) * 4 + k = (hdC z).length + (i * 4 + k) := fun k => by rw [hdC_len]; omega
    rw [List.flatMap_cons, e, e, e]
    simp only [List.set_append_right _ _ (Nat.le_add_right _ _), Nat.add_sub_cancel_left]
    rw [hd_set zs i (by simpa using h) d]
    rfl
theorem take_set {α : Type} {ys : List α} {i : Nat} {v : α} (h : i < ys.length) : (ys.set i v).take (i + 1) = ys.take i ++ [v] := by
  rw [List.take_succ_eq_append_getElem (by simpa using h), List.getElem_set_self, List.take_set_of_le (Nat.le_refl _)]
theorem was_wr {b o : Nat} {v : Value} : Was H (wr H b o v) := fun q h => by
  unfold wr at h
  split at h
  · subst_vars; cases e : H q with
    | none => rfl
    | some c => rw [e] at h; cases h
  · exact h
theorem put4 {b : Nat} {id : Int} {dp mp qp hp : Option Addr} {dl dc ml mc ql qc hl hc : Nat} (h : D5 H b id dp dl dc mp ml mc qp ql qc hp hl hc) {dp' mp' qp' hp' : Option Addr} {dl' dc' ml' mc' ql' qc' hl' hc' : Nat} {F : Hp → Prop}
    (hF : ∀ H', D5 H' b id dp' dl' dc' mp' ml' mc' qp' ql' qc' hp' hl' hc' → Mod [b] H H' → Was H H' → F H') :
    ST H b 1 (.slice dp' dl' dc') fun H1 => ST H1 b 2 (.slice mp' ml' mc') fun H2 => ST H2 b 3 (.slice qp' ql' qc') fun H3 => ST H3 b 4 (.slice hp' hl' hc') F := by
  have r1 := h.2.1
  have r2 : rd (wr H b 1 (.slice dp' dl' dc')) b 2 = some (.slice mp ml mc) := by rw [rd_wr_off (by decide)]; exact h.2.2.1
  have r3 : rd (wr (wr H b 1 (.slice dp' dl' dc')) b 2 (.slice mp' ml' mc')) b 3 = some (.slice qp ql qc) := by rw [rd_wr_off (by decide), rd_wr_off (by decide)]; exact h.2.2.2.1
  have r4 : rd (wr (wr (wr H b 1 (.slice dp' dl' dc')) b 2 (.slice mp' ml' mc')) b 3 (.slice qp' ql' qc')) b 4 = some (.slice hp hl hc) := by rw [rd_wr_off (by decide), rd_wr_off (by decide), rd_wr_off (by decide)]; exact h.2.2.2.2
  refine st r1 (st r2 (st r3 (st r4 (hF _ ⟨?_, ?_, ?_, ?_, ?_⟩ ((((Mod.refl.wr (.inl (by simp))).wr (.inl (by simp))).wr (.inl (by simp))).wr (.inl (by simp))) (((was_wr.trans was_wr).trans was_wr).trans was_wr)))))
  · rw [rd_wr_off (by decide), rd_wr_off (by decide), rd_wr_off (by decide), rd_wr_off (by decide)]; exact h.1
  · rw [rd_wr_off (by decide), rd_wr_off (by decide), rd_wr_off (by decide)]; exact rd_wr_self r1
  · rw [rd_wr_off (by decide), rd_wr_off (by decide)]; exact rd_wr_self r2
  · rw [rd_wr_off (by decide)]; exact rd_wr_self r3
  · exact rd_wr_self r4
theorem put5 {b : Nat} {id id' : Int} {dp mp qp hp : Option Addr} {dl dc ml mc ql qc hl hc : Nat} (h : D5 H b id dp dl dc mp ml mc qp ql qc hp hl hc) {dp' mp' qp' hp' : Option Addr} {dl' dc' ml' mc' ql' qc' hl' hc' : Nat} {F : Hp → Prop}
    (hF : ∀ H', D5 H' b id' dp' dl' dc' mp' ml' mc' qp' ql' qc' hp' hl' hc' → Mod [b] H H' → Was H H' → F H') :
    ST H b 0 (.int .u32 id') fun H0 => ST H0 b 1 (.slice dp' dl' dc') fun H1 => ST H1 b 2 (.slice mp' ml' mc') fun H2 => ST H2 b 3 (.slice qp' ql' qc') fun H3 => ST H3 b 4 (.slice hp' hl' hc') F := by
  refine st h.1 (put4 (id := id') (dp := dp) (dl := dl) (dc := dc) (mp := mp) (ml := ml) (mc := mc) (qp := qp) (ql := ql) (qc := qc) (hp := hp) (hl := hl) (hc := hc) ⟨rd_wr_self h.1, ?_, ?_, ?_, ?_⟩ fun H' d m w => hF H' d (Mod.trans (Mod.refl.wr (.inl (by simp))) m) (was_wr.trans w))
  · rw [rd_wr_off (by decide)]; exact h.2.1
  · rw [rd_wr_off (by decide)]; exact h.2.2.1
  · rw [rd_wr_off (by decide)]; exact h.2.2.2.1
  · rw [rd_wr_off (by decide)]; exact h.2.2.2.2
end
end Go.Proofs.Ytbpbgkpkkklipaa
namespace Go.Proofs.Ytbpbgkpkkklipaa
open Go.V
section
variable {H : Hp} {id : Int} {dp mp qp hp : Option Addr} {dl dc ml mc ql qc hl hc : Nat} {x : Pt}
theorem patch_Copy.c {K : Int → Option Addr → Nat → Nat → Option Addr → Nat → Nat → Option Addr → Nat → Nat → Option Addr → Nat → Nat → Hp → Prop} (h : PtS H id dp dl dc mp ml mc qp ql qc hp hl hc x) (hs : PtSm x)
    (hK : ∀ p1 c1 p2 c2 p3 c3 p4 c4 zs H', Le H H' → Own H H' x.id p1 dl c1 p2 ml c2 p3 ql c3 p4 hl c4 x zs → K x.id p1 dl c1 p2 ml c2 p3 ql c3 p4 hl c4 H') : patch_Copy.C id dp dl dc mp ml mc qp ql qc hp hl hc H K := by
  apply patch_Copy.of
  intro b hb
  have l1 := Le.upd (c := [.int .u32 id, .slice dp dl dc, .slice mp ml mc, .slice qp ql qc, .slice hp hl hc]) hb
  have d := D5.new (H := H) (b := b) (id := id) (dp := dp) (dl := dl) (dc := dc) (mp := mp) (ml := ml) (mc := mc) (qp := qp) (ql := ql) (qc := qc) (hp := hp) (hl := hl) (hc := hc)
  revert l1 d
  generalize upd H b [.int .u32 id, .slice dp dl dc, .slice mp ml mc, .slice qp ql qc, .slice hp hl hc] = H1
  intro l1 d
  have d0 := d
  obtain ⟨rfl, hd, hm, hq, hh⟩ := h
  intro b2 hb2
  have l2 := Le.upd (c := [.int .u32 (0 : Int), .slice none 0 0, .slice none 0 0, .slice none 0 0, .slice none 0 0]) hb2
  have e2 := D5.new (H := H1) (b := b2) (id := (0 : Int)) (dp := none) (dl := 0) (dc := 0) (mp := none) (ml := 0) (mc := 0) (qp := none) (ql := 0) (qc := 0) (hp := none) (hl := 0) (hc := 0)
  revert l2 e2
  generalize upd H1 b2 [.int .u32 (0 : Int), .slice none 0 0, .slice none 0 0, .slice none 0 0, .slice none 0 0] = H2
  intro l2 e2
  have d := d.le l2
  have l02 := l1.trans l2
  have sd := hs.deps
  have sm := hs.makes
  have sq := hs.drops
  have sh := hs.hunks
  have ed := hd.len
  have em := hm.len
  have eq := hq.len
  have eh := hh.1
  have ok2 : Ok H2 [some ⟨b, 0, none⟩, some ⟨b2, 0, none⟩] := by
    refine ⟨?_, fun q hq' b' o e => ?_⟩
    · refine List.pairwise_cons.2 ⟨fun a ha => ?_, by simp⟩
      simp at ha; subst ha
      intro b' o o' f g
      simp only [Option.some.injEq, Addr.mk.injEq] at f g
      obtain ⟨rfl, _⟩ := f
      obtain ⟨rfl, _⟩ := g
      exact d.there (by have := none_of_le (Le.refl H1) hb2; exact absurd this (ne_none_of_rd (d0.1)))
    · simp at hq'
      rcases hq' with rfl | rfl
      · simp only [Option.some.injEq, Addr.mk.injEq] at e; obtain ⟨rfl, _⟩ := e; exact d.there
      · simp only [Option.some.injEq, Addr.mk.injEq] at e; obtain ⟨rfl, _⟩ := e; exact e2.there
  refine ldL_i d.2.1 (ldL_i d.2.2.1 (ldL_i d.2.2.2.1 (ldL_i d.2.2.2.2 ?_)))
  refine slices_Clone_uint32_uint32.c (hd.le l02) (by omega) fun p1 c1 H3 l3 B1 => ⟨(d.le l3).2.2.2.2, (d.le l3).2.2.2.1, (d.le l3).2.2.1, ?_⟩
  have d3 := d.le l3
  have l03 := l02.trans l3
  refine slices_Clone_string_string.c (hm.le l03) (by omega) fun p2 c2 H4 l4 B2 => ⟨(d3.le l4).2.2.2.2, (d3.le l4).2.2.2.1, ?_⟩
  have d4 := d3.le l4
  have l04 := l03.trans l4
  refine slices_Clone_string_string.c (hq.le l04) (by omega) fun p3 c3 H5 l5 B3 => ⟨(d4.le l5).2.2.2.2, ?_⟩
  have d5 := d4.le l5
  have l05 := l04.trans l5
  obtain ⟨zs, hzl, hzs, hze⟩ := HkH.rows hh
  refine slices_Clone_api_Hunk_api_Hunk.c (xs := zs) (hzs.le l05) (by omega) fun p4 c4 H6 l6 B4 => ?_
  have d6 := d5.le l6
  have l06 := l05.trans l6
  have e6 := (((e2.le l3).le l4).le l5).le l6
  have ok6 : Ok H6 ([some ⟨b, 0, none⟩, some ⟨b2, 0, none⟩] ++ [p1] ++ [p2] ++ [p3] ++ [p4]) := (((ok2.snoc B1.fr (bThere B1) l3).snoc B2.fr (bThere B2) l4).snoc B3.fr (bThere B3) l5).snoc B4.fr (bThere B4) l6
  have B1 := (bBack B1 l02).le (l4.trans (l5.trans l6))
  have B2 := (bBack B2 l03).le (l5.trans l6)
  have B3 := (bBack B3 l04).le l6
  have B4 := bBack B4 l05
  have pw6 := ok6.1
  simp only [List.cons_append, List.nil_append, List.pairwise_cons] at pw6
  have a1 : ∀ q ∈ [p1, p2, p3, p4, some ⟨b2, 0, none⟩], Apart (some ⟨b, 0, none⟩) q := fun q hq' => by
    simp only [List.mem_cons, List.not_mem_nil, or_false] at hq'
    refine pw6.1 q ?_
    simp only [List.mem_cons, List.not_mem_nil, or_false]
    rcases hq' with h | h | h | h | h <;> simp [h]
  clear ok2 d d3 d4 d5 e2
  refine put4 d6 fun H7 d7 m7 w7 => ?_
  have lz : Le H H7 := m7.le l06 fun q hq' => by simp at hq'; subst hq'; exact hb
  have B1 := bModA B1 m7 (a1 _ (by simp))
  have B2 := bModA B2 m7 (a1 _ (by simp))
  have B3 := bModA B3 m7 (a1 _ (by simp))
  have B4 := bModA B4 m7 (a1 _ (by simp))
  have nb2 : b2 ∉ [b] := fun h => by
    simp at h; subst h
    exact a1 (some ⟨b2, 0, none⟩) (by simp) b2 0 0 rfl rfl
  have e7 := e6.mod m7 nb2
  have ok7 := ok6.was w7
  clear ok6 d6 e6 l06
  refine ldL_i d7.2.2.2.2 ⟨fun t Hx => ∃ (i : Nat) (ys : List (BL × HD)), t = (i : Nat) ∧ i ≤ hl ∧ Le H Hx ∧ D5 Hx b x.id p1 dl c1 p2 ml c2 p3 ql c3 p4 hl c4 ∧ D5 Hx b2 0 none 0 0 none 0 0 none 0 0 none 0 0 ∧ Buf 1 H Hx p1 dl c1 (x.deps.map fU) ∧ Buf 1 H Hx p2 ml c2 (x.makes.map sv) ∧ Buf 1 H Hx p3 ql c3 (x.drops.map sv) ∧ Buf 4 H Hx p4 hl c4 (ys.flatMap hdC) ∧ ys.length = x.hunks.length ∧
    (∀ j (h1 : j < x.hunks.length) (h2 : j < ys.length), ys[j].1 = x.hunks[j].path ∧ (j < i → OwnH H Hx x.hunks[j] ys[j].2) ∧ (i ≤ j → RdH H x.hunks[j] ys[j].2)) ∧ Ok Hx ([some ⟨b, 0, none⟩, some ⟨b2, 0, none⟩, p1, p2, p3, p4] ++ (ys.take i).flatMap hdP), fun t _ => ((hl : Int) - t).toNat,
    ⟨0, zs, rfl, Nat.zero_le _, lz, d7, e7, B1, B2, B3, B4, hzl, fun j h1 h2 => ⟨(hze j h1 h2).1, fun h => absurd h (Nat.not_lt_zero _), fun _ => (hze j h1 h2).2⟩, by simpa using ok7⟩, ?_⟩
  clear B1 B2 B3 B4 d7 e7 ok7 lz m7 w7 H7
  rintro t Hx ⟨i, ys, rfl, gi, lx, dx, ex, B1, B2, B3, B4, hyl, hy, ok⟩
  refine bcd (fun hlt => ?_) fun hlt => ?_
  · have hi : i < x.hunks.length := by omega
    have hi2 : i < ys.length := by omega
    obtain ⟨bh, rfl⟩ := B4.some_of (by omega)
    obtain ⟨f1, _, f3⟩ := hy i hi hi2
    obtain ⟨s1, s2, s3⟩ := f3 (Nat.le_refl _)
    have hsm := hs.each _ (List.getElem_mem hi)
    have ss1 := hsm.adds
    have ss2 := hsm.edges
    have ss3 := hsm.kills
    have es1 := s1.len
    have es2 := s2.len
    have es3 := s3.len
    refine rsD (B4.sn hdC_len (by decide)) rfl hi2 ?_
    refine D4.mk fun q H7 hq7 dq l7 => ?_
    have d7 := dx.le l7
    have lx7 := lx.trans l7
    refine ldL_i d7.2.2.2.2 (ldL_i d7.2.2.2.2 (ldL_i d7.2.2.2.2 (ldL_i dq.2.1 (ldL_i dq.2.2.1 (ldL_i dq.2.2.2 ?_)))))
    refine slices_Clone_string_string.c (s1.le lx7) (by omega) fun r1 k1 H8 l8 A1 => ⟨(dq.le l8).2.2.2, (dq.le l8).2.2.1, (d7.le l8).2.2.2.2, (d7.le l8).2.2.2.2, (d7.le l8).2.2.2.2, ?_⟩
    have dq := dq.le l8
    have d8 := d7.le l8
    have lx8 := lx7.trans l8
    refine slices_Clone_api_Edge_api_Edge.c (s2.le lx8) (by omega) fun r2 k2 H9 l9 A2 => ⟨(dq.le l9).2.2.2, (d8.le l9).2.2.2.2, (d8.le l9).2.2.2.2, (d8.le l9).2.2.2.2, ?_⟩
    have d9 := d8.le l9
    have lx9 := lx8.trans l9
    refine slices_Clone_api_LineID_api_LineID.c (s3.le lx9) (by omega) fun r3 k3 H10 l10 A3 => ⟨(d9.le l10).2.2.2.2, (d9.le l10).2.2.2.2, (d9.le l10).2.2.2.2, ?_⟩
    have d10 := d9.le l10
    have lx10 := lx9.trans l10
    have lt10 := ((l7.trans l8).trans l9).trans l10
    have B4' := B4.le lt10
    have ok' := ((((ok.snoc (A1.fr.le l7) (bThere A1) (l7.trans l8)).snoc A2.fr (bThere A2) l9).snoc A3.fr (bThere A3) l10))
    have pw := ok.1
    have apb : Apart (some ⟨bh, 0, none⟩) (some ⟨b, 0, none⟩) := ((List.pairwise_cons.1 pw).1 _ (by simp)).symm
    have hbb : b ∉ [bh] := fun h => by
      simp at h; subst h; exact apb b 0 0 rfl rfl
    have apb2 : Apart (some ⟨bh, 0, none⟩) (some ⟨b2, 0, none⟩) := ((List.pairwise_cons.1 (List.pairwise_cons.1 pw).2).1 _ (by simp)).symm
    have hbb2 : b2 ∉ [bh] := fun h => by
      simp at h; subst h; exact apb2 b2 0 0 rfl rfl
    have pw2 := (List.pairwise_cons.1 (List.pairwise_cons.1 pw).2).2
    have ap1 : Apart (some ⟨bh, 0, none⟩) p1 := ((List.pairwise_cons.1 pw2).1 _ (by simp)).symm
    have pw3 := (List.pairwise_cons.1 pw2).2
    have ap2 : Apart (some ⟨bh, 0, none⟩) p2 := ((List.pairwise_cons.1 pw3).1 _ (by simp)).symm
    have pw4 := (List.pairwise_cons.1 pw3).2
    have ap3 : Apart (some ⟨bh, 0, none⟩) p3 := ((List.pairwise_cons.1 pw4).1 _ (by simp)).symm
    have pw5 := (List.pairwise_cons.1 pw4).2
    have apf : ∀ q ∈ (ys.take i).flatMap hdP, Apart (some ⟨bh, 0, none⟩) q := (List.pairwise_cons.1 pw5).1
    have th4 : There Hx (some ⟨bh, 0, none⟩) := bThere B4
    have apr1 : Apart (some ⟨bh, 0, none⟩) r1 := apThere (th4.was l7.was) A1.fr
    have apr2 : Apart (some ⟨bh, 0, none⟩) r2 := apThere (th4.was (l7.trans l8).was) A2.fr
    have apr3 : Apart (some ⟨bh, 0, none⟩) r3 := apThere (th4.was ((l7.trans l8).trans l9).was) A3.fr
    have A1 := (bBack A1 lx7).le (l9.trans l10)
    have A2 := (bBack A2 lx8).le l10
    have A3 := bBack A3 lx9
    have g : ∀ j, j < 4 → (ys.flatMap hdC)[i * 4 + j]? = (hdC ys[i])[j]? := fun j hj => flatMap_get hdC_len ys i hi2 j hj
    have w1 := B4'.rd (g 1 (by decide))
    have w2 := B4'.rd (g 2 (by decide))
    have w3 := B4'.rd (g 3 (by decide))
    rw [Nat.zero_add] at w1 w2 w3
    have gl : (ys.flatMap hdC).length = ys.length * 4 := flatMap_len hdC_len ys
    have C1 := B4'.set (i := i * 4 + 1) (v := .slice r1 ys[i].2.al k1) (by omega) rfl
    have C2 := C1.set (i := i * 4 + 2) (v := .slice r2 ys[i].2.el k2) (by rw [List.length_set, gl]; omega) rfl
    have C3 := C2.set (i := i * 4 + 3) (v := .slice r3 ys[i].2.kl k3) (by rw [List.length_set, List.length_set, gl]; omega) rfl
    have hset := hd_set ys i hi2 ⟨r1, ys[i].2.al, k1, r2, ys[i].2.el, k2, r3, ys[i].2.kl, k3⟩
    simp only at hset
    rw [hset] at C3
    have M1 : Mod [bh] H10 (wr H10 bh (i * 4 + 1) (.slice r1 ys[i].2.al k1)) := Mod.refl.wr (.inl (by simp))
    have M2 := M1.wr (b := bh) (o := i * 4 + 2) (v := .slice r2 ys[i].2.el k2) (.inl (by simp))
    have M3 := M2.wr (b := bh) (o := i * 4 + 3) (v := .slice r3 ys[i].2.kl k3) (.inl (by simp))
    refine idxN i rfl (by omega) (nil ?_)
    simp only [Nat.zero_add]
    refine st w1 ⟨(d10.mod M1 hbb).2.2.2.2, (d10.mod M1 hbb).2.2.2.2, ?_⟩
    refine idxN i rfl (by omega) (nil ?_)
    simp only [Nat.zero_add]
    refine st (by rw [rd_wr_off (by omega)]; exact w2) ⟨(d10.mod M2 hbb).2.2.2.2, ?_⟩
    refine idxN i rfl (by omega) (nil ?_)
    simp only [Nat.zero_add]
    refine st (by rw [rd_wr_off (by omega), rd_wr_off (by omega)]; exact w3) (chk (by omega) ⟨⟨i + 1, ys.set i (ys[i].1, ⟨r1, ys[i].2.al, k1, r2, ys[i].2.el, k2, r3, ys[i].2.kl, k3⟩), by omega, by omega, ?_, d10.mod M3 hbb, (ex.le lt10).mod M3 hbb2, bModA (B1.le lt10) M3 ap1, bModA (B2.le lt10) M3 ap2, bModA (B3.le lt10) M3 ap3, C3, by simp [hyl], fun j h1 h2 => ?_, ?_⟩, by first | omega | (dsimp only; omega)⟩)
    · exact M3.le lx10 fun q hq' => by simp at hq'; subst hq'; exact B4.fr q 0 rfl
    · have hj : j < ys.length := by omega
      by_cases hji : j = i
      · subst hji
        rw [List.getElem_set_self]
        refine ⟨f1, fun _ => ?_, fun h => absurd h (by omega)⟩
        exact ⟨bModA A1 M3 apr1, bModA A2 M3 apr2, bModA A3 M3 apr3⟩
      · rw [List.getElem_set_ne (fun h => hji h.symm)]
        obtain ⟨g1, g2, g3⟩ := hy j h1 hj
        refine ⟨g1, fun hjl => ?_, fun h => g3 (by omega)⟩
        refine ((g2 (by omega)).le lt10).mod (z := ys[j]) M3 fun q hq' => apf q ?_
        exact List.mem_flatMap.2 ⟨ys[j], List.mem_iff_getElem.2 ⟨j, by rw [List.length_take]; omega, by rw [List.getElem_take]⟩, hq'⟩
    · rw [take_set hi2, List.flatMap_append, ← List.append_assoc]
      have : List.flatMap hdP [(ys[i].1, (⟨r1, ys[i].2.al, k1, r2, ys[i].2.el, k2, r3, ys[i].2.kl, k3⟩ : HD))] = [r1] ++ ([r2] ++ [r3]) := rfl
      rw [this, ← List.append_assoc, ← List.append_assoc]
      exact ok'.was ((was_wr.trans was_wr).trans was_wr)
  · have hi : i = hl := by omega
    refine ldI_i dx.1 (ldL_i dx.2.1 (ldL_i dx.2.2.1 (ldL_i dx.2.2.2.1 (ldL_i dx.2.2.2.2 ?_))))
    refine put5 ex fun H7 d7 m7 w7 => ldI_i d7.1 (ldL_i d7.2.1 (ldL_i d7.2.2.1 (ldL_i d7.2.2.2.1 (ldL_i d7.2.2.2.2 ?_))))
    have pw := ok.1
    have pw2 := List.pairwise_cons.1 (List.pairwise_cons.1 pw).2
    rw [List.take_of_length_le (by omega)] at pw2
    have ap : ∀ q ∈ [p1, p2, p3, p4] ++ ys.flatMap hdP, Apart (some ⟨b2, 0, none⟩) q := pw2.1
    have hb2' : H b2 = none := none_of_le l1 hb2
    refine hK p1 c1 p2 c2 p3 c3 p4 c4 ys H7 (m7.le lx fun q hq' => by simp at hq'; subst hq'; exact hb2') ⟨rfl, bModA B1 m7 (ap _ (by simp)), bModA B2 m7 (ap _ (by simp)), bModA B3 m7 (ap _ (by simp)), ⟨hyl, bModA B4 m7 (ap _ (by simp)), fun j h1 h2 => ⟨(hy j h1 h2).1, ((hy j h1 h2).2.1 (by omega)).mod (z := ys[j]) m7 fun q hq' => ap q ?_⟩⟩, pw2.2⟩
    exact List.mem_append_right _ (List.mem_flatMap.2 ⟨ys[j], List.getElem_mem h2, hq'⟩)
end
end Go.Proofs.Ytbpbgkpkkklipaa
namespace Go.Proofs.Ytbpbgkpkkklipaa
open Go.V
/-! ### Numbers of patches -/
theorem wrap16 (x : Int) : IntKind.wrap .u16 x = x % 65536 := by simp [IntKind.wrap, IntKind.signed, IntKind.bits]
theorem u32w {e : Int} (h : 0 ≤ e ∧ e < 4294967296) : IntKind.wrap .u32 e = e := wrap_in .u32 (by simp [IntKind.min, IntKind.max, IntKind.signed, IntKind.bits]; omega)
theorem ofInt32 {a : Nat} (ha : a < 4294967296) : (BitVec.ofInt 32 (a : Int)).toNat = a := by
  rw [BitVec.ofInt_natCast, BitVec.toNat_ofNat]; exact Nat.mod_eq_of_lt (by omega)
theorem ior32 {a b : Nat} (ha : a < 4294967296) (hb : b < 4294967296) : ior .u32 (a : Int) (b : Int) = ((a ||| b : Nat) : Int) := by
  have hx : a ||| b < 2 ^ 32 := Nat.or_lt_two_pow (by omega) (by omega)
  show IntKind.u32.wrap ((BitVec.ofInt 32 (a : Int) ||| BitVec.ofInt 32 (b : Int)).toNat : Int) = _
  rw [BitVec.toNat_or, ofInt32 ha, ofInt32 hb, u32w (by omega)]
theorem iand32 {a : Nat} (ha : a < 4294967296) : iand .u32 (a : Int) (65535 : Int) = ((a % 65536 : Nat) : Int) := by
  have e : ((65535 : Nat) : Int) = (65535 : Int) := rfl
  have hm : a &&& 65535 = a % 65536 := Nat.and_two_pow_sub_one_eq_mod a 16
  show IntKind.u32.wrap ((BitVec.ofInt 32 (a : Int) &&& BitVec.ofInt 32 (65535 : Int)).toNat : Int) = _
  rw [← e, BitVec.toNat_and, ofInt32 ha, ofInt32 (by decide), hm, u32w (by omega)]
theorem ishl32 {a : Nat} (h : a < 65536) : ishl .u32 (a : Int) (16 : Int) = ((a * 65536 : Nat) : Int) := by
  show IntKind.u32.wrap ((a : Int) * 2 ^ 16) = _
  have e : (a : Int) * 2 ^ 16 = ((a * 65536 : Nat) : Int) := by omega
  rw [e, u32w (by omega)]
theorem ishr32 {a : Nat} : ishr .u32 (a : Int) (16 : Int) = ((a / 65536 : Nat) : Int) := by
  show (a : Int).fdiv (2 ^ 16) = _
  rw [Int.fdiv_eq_ediv_of_nonneg _ (by decide)]; omega
theorem id_or {a b : Nat} (hb : b < 65536) : a * 65536 ||| b = a * 65536 + b := by
  have := Nat.shiftLeft_add_eq_or_of_lt (i := 16) (b := b) (by omega) a
  rw [Nat.shiftLeft_eq] at this
  exact this.symm
def idN (w s : Int) : Nat := (w % 65536).toNat * 65536 + (s % 65536).toNat
section
variable {H : Hp}
end
/-! ### Known patches -/
def xk : Pt := ⟨65537, [], [[97]], [], [⟨[97], [[120, 10], [121]], [⟨⟨65537, 0⟩, ⟨65537, 1⟩⟩], []⟩]⟩
def xb : Pt := ⟨65537, [], [[97]], [], [⟨[97], [[10, 10], [121]], [⟨⟨65537, 0⟩, ⟨65537, 1⟩⟩], []⟩]⟩
def xz : Pt := ⟨0, [], [], [], []⟩
theorem xk_is : isB xk = true := by decide
theorem xb_is : isB xb = false := by decide
theorem xz_is : isB xz = false := by decide
theorem xk_needs : needsL xk = [] := by decide
theorem xk_paths : pathsL xk = [[97]] := by decide
theorem xk_ne : ¬ xk = xb := by decide
theorem path_ok : pathB [97, 47, 98, 46, 99] = true := by decide
theorem path_no : pathB [65] = false := by decide
theorem hkSm_of (h : Hk) (hp : h.path.length ≤ 1000) (ha : h.adds.length ≤ 1000) (he : h.edges.length ≤ 1000) (hk : h.kills.length ≤ 1000) (ht : ∀ s ∈ h.adds, s.length ≤ 1000000) : HkSm h := ⟨by omega, ha, he, hk, ht⟩
theorem xk_sm : PtSm xk := ⟨by decide, by decide, by decide, by decide, by decide, by decide, fun h hh => by
  simp only [xk, List.mem_singleton] at hh; subst hh; exact ⟨by decide, by decide, by decide, by decide, by decide⟩⟩
theorem xb_sm : PtSm xb := ⟨by decide, by decide, by decide, by decide, by decide, by decide, fun h hh => by
  simp only [xb, List.mem_singleton] at hh; subst hh; exact ⟨by decide, by decide, by decide, by decide, by decide⟩⟩
theorem xz_sm : PtSm xz := ⟨by decide, by decide, by decide, by decide, by decide, by decide, fun h hh => by simp [xz] at hh⟩
theorem xz_pt {H : Hp} : PtS H 0 none 0 0 none 0 0 none 0 0 none 0 0 xz := ⟨rfl, Sl.nil, Sl.nil, Sl.nil, rfl, Nat.le_refl _, .inl rfl⟩
end Go.Proofs.Ytbpbgkpkkklipaa
namespace Go.Proofs.Ytbpbgkpkkklipaa
open Go.V
/-! ### Stores -/
theorem HkH.lr {H H' : Hp} {p : Option Addr} {l c : Nat} {hs : List Hk} (h : HkH H p l c hs) (hl : Lr H H') : HkH H' p l c hs := by
  refine ⟨h.1, h.2.1, h.2.2.imp id fun ⟨b, o, e, hh⟩ => ⟨b, o, e, fun i hi => ?_⟩⟩
  obtain ⟨ap, al, ac, ep, el, ec, kp, kl, kc, h1, h2, h3, h4, h5, h6, h7⟩ := hh i hi
  exact ⟨ap, al, ac, ep, el, ec, kp, kl, kc, hl _ _ _ h1, hl _ _ _ h2, hl _ _ _ h3, hl _ _ _ h4, h5.lr hl, h6.lr hl, h7.lr hl⟩
theorem PtS.lr {H H' : Hp} {id : Int} {dp mp qp hp : Option Addr} {dl dc ml mc ql qc hl hc : Nat} {x : Pt} (h : PtS H id dp dl dc mp ml mc qp ql qc hp hl hc x) (hle : Lr H H') : PtS H' id dp dl dc mp ml mc qp ql qc hp hl hc x := ⟨h.1, h.2.1.lr hle, h.2.2.1.lr hle, h.2.2.2.1.lr hle, h.2.2.2.2.lr hle⟩
/-- A patch as a value of a map. -/
def PtV (H : Hp) (v : Value) (x : Pt) : Prop := ∃ dp dl dc mp ml mc qp ql qc hp hl hc, v = .agg ⟨[.int .u32 x.id, .slice dp dl dc, .slice mp ml mc, .slice qp ql qc, .slice hp hl hc]⟩ ∧ PtS H x.id dp dl dc mp ml mc qp ql qc hp hl hc x ∧ PtSm x
theorem PtV.lr {H H' : Hp} {v : Value} {x : Pt} (h : PtV H v x) (hl : Lr H H') : PtV H' v x := by
  obtain ⟨dp, dl, dc, mp, ml, mc, qp, ql, qc, hp, hl', hc, e, h1, h2⟩ := h
  exact ⟨dp, dl, dc, mp, ml, mc, qp, ql, qc, hp, hl', hc, e, h1.lr hl, h2⟩
def Ents (H : Hp) : List (Int × Value) → List Pt → Prop
  | [], [] => True
  | e :: l, x :: S => e.1 = x.id ∧ PtV H e.2 x ∧ Ents H l S
  | _, _ => False
def sGet (S : List Pt) (id : Int) : Option Pt := S.find? fun x => decide (x.id = id)
theorem Ents.lr {H H' : Hp} (hl : Lr H H') : ∀ {l : List (Int × Value)} {S : List Pt}, Ents H l S → Ents H' l S
  | [], [], _ => trivial
  | [], _ :: _, h => h.elim
  | _ :: _, [], h => h.elim
  | _ :: _, _ :: _, h => ⟨h.1, h.2.1.lr hl, Ents.lr hl h.2.2⟩
theorem Ents.keys {H : Hp} : ∀ {l : List (Int × Value)} {S : List Pt}, Ents H l S → l.map (·.1) = S.map (·.id)
  | [], [], _ => rfl
  | [], _ :: _, h => h.elim
  | _ :: _, [], h => h.elim
  | _ :: _, _ :: _, h => by rw [List.map_cons, List.map_cons, h.1, Ents.keys h.2.2]
theorem Ents.len {H : Hp} {l : List (Int × Value)} {S : List Pt} (h : Ents H l S) : l.length = S.length := by
  have := congrArg List.length h.keys
  simpa using this
theorem Ents.snoc {H : Hp} {v : Value} {x : Pt} (hx : PtV H v x) : ∀ {l : List (Int × Value)} {S : List Pt}, Ents H l S → Ents H (l ++ [(x.id, v)]) (S ++ [x])
  | [], [], _ => ⟨rfl, hx, trivial⟩
  | [], _ :: _, h => h.elim
  | _ :: _, [], h => h.elim
  | _ :: _, _ :: _, h => ⟨h.1, h.2.1, Ents.snoc hx h.2.2⟩
theorem sGet_nil {id : Int} : sGet [] id = none := rfl
theorem sGet_cons {x : Pt} {S : List Pt} {id : Int} : sGet (x :: S) id = if x.id = id then some x else sGet S id := by
  unfold sGet
  rw [List.find?_cons]
  by_cases h : x.id = id <;> simp [h]
theorem sGet_some {S : List Pt} {id : Int} {x : Pt} (h : sGet S id = some x) : x ∈ S ∧ x.id = id := by
  unfold sGet at h
  exact ⟨List.mem_of_find?_eq_some h, by simpa using List.find?_some h⟩
theorem sGet_none {S : List Pt} {id : Int} : sGet S id = none ↔ ∀ x ∈ S, x.id ≠ id := by
  unfold sGet
  rw [List.find?_eq_none]
  simp
theorem sGet_is {S : List Pt} {id : Int} : (sGet S id).isSome = decide (id ∈ S.map (·.id)) := by
  cases h : sGet S id with
  | none =>
    rw [sGet_none] at h
    symm
    simpa using h
  | some x =>
    obtain ⟨h1, h2⟩ := sGet_some h
    symm
    simp only [Option.isSome_some, decide_eq_true_eq, List.mem_map]
    exact ⟨x, h1, h2⟩
theorem sGet_of {S : List Pt} (hn : (S.map (·.id)).Nodup) {x : Pt} (hx : x ∈ S) : sGet S x.id = some x := by
  induction S with
  | nil => cases hx
  | cons y S ih =>
    rw [List.map_cons, List.nodup_cons] at hn
    rw [sGet_cons]
    rcases List.mem_cons.1 hx with rfl | hx
    · simp
    · rw [if_neg (fun e => hn.1 (by rw [e]; exact List.mem_map.2 ⟨x, hx, rfl⟩)), ih hn.2 hx]
theorem sGet_snoc {S : List Pt} {x : Pt} {id : Int} : sGet (S ++ [x]) id = match sGet S id with | some y => some y | none => if x.id = id then some x else none := by
  induction S with
  | nil => rw [List.nil_append, sGet_cons]; rfl
  | cons y S ih =>
    rw [List.cons_append, sGet_cons, sGet_cons, ih]
    by_cases h : y.id = id <;> simp [h]
theorem Ents.get {H : Hp} {id : Int} : ∀ {l : List (Int × Value)} {S : List Pt}, Ents H l S → (mget l id = none ∧ sGet S id = none) ∨ ∃ v x, mget l id = some v ∧ sGet S id = some x ∧ x.id = id ∧ PtV H v x
  | [], [], _ => .inl ⟨rfl, rfl⟩
  | [], _ :: _, h => h.elim
  | _ :: _, [], h => h.elim
  | e :: l, x :: S, h => by
    rw [mget_cons, sGet_cons, h.1]
    by_cases hid : x.id = id
    · rw [if_pos hid, if_pos hid]
      exact .inr ⟨_, _, rfl, rfl, hid, h.2.1⟩
    · rw [if_neg hid, if_neg hid]
      exact Ents.get h.2.2

/-- A store: map m, its patches in the order in which they came. -/
def StAt (H : Hp) (s : Option Addr) (m : Nat) (S : List Pt) : Prop := ∃ b l, s = some ⟨b, 0, none⟩ ∧ rd H b 0 = some (.map (some m)) ∧ MapAt fU H m l ∧ Ents H l S
theorem StAt.le {H H' : Hp} {s : Option Addr} {m : Nat} {S : List Pt} (h : StAt H s m S) (hl : Le H H') : StAt H' s m S := by
  obtain ⟨b, l, h1, h2, h3, h4⟩ := h
  exact ⟨b, l, h1, hl.rd h2, h3.le hl, h4.lr hl.lr⟩
theorem StAt.lr {H H' : Hp} {s : Option Addr} {m : Nat} {S : List Pt} (h : StAt H s m S) (hm : Mod [m] H H') : Lr H H' := by
  obtain ⟨b, l, h1, h2, h3, h4⟩ := h
  exact h3.lr hm
theorem StAt.nodup {H : Hp} {s : Option Addr} {m : Nat} {S : List Pt} (h : StAt H s m S) : (S.map (·.id)).Nodup := by
  obtain ⟨b, l, h1, h2, h3, h4⟩ := h
  rw [← h4.keys]; exact h3.nodup
theorem StAt.no {H : Hp} {s : Option Addr} {m : Nat} {S : List Pt} (h : StAt H s m S) (o : Nat) : rd H m o = none := by
  obtain ⟨b, l, h1, h2, h3, h4⟩ := h
  exact h3.no o
theorem StAt.some {H : Hp} {s : Option Addr} {m : Nat} {S : List Pt} (h : StAt H s m S) : H m ≠ none := by
  obtain ⟨b, l, h1, h2, h3, h4⟩ := h
  exact h3.some
/-- Another map is written. -/
theorem StAt.mod {H H' : Hp} {s : Option Addr} {m n : Nat} {S : List Pt} (h : StAt H s m S) (hl : Lr H H') (hm : Mod [n] H H') (hne : m ≠ n) : StAt H' s m S := by
  obtain ⟨b, l, h1, h2, h3, h4⟩ := h
  exact ⟨b, l, h1, hl _ _ _ h2, h3.mod hm (by simpa using hne), h4.lr hl⟩

theorem uPt : prog.underlying ty_map_uint32_api_Patch = some (.map ty_uint32 ty_api_Patch) := by kernel_rfl
theorem kU : KyOk prog ty_uint32 fU := KyOk.int (by kernel_rfl)
theorem zPt (w : World) : (zeroValue ty_api_Patch).run prog w = .ok (.agg ⟨[.int .u32 0, .slice none 0 0, .slice none 0 0, .slice none 0 0, .slice none 0 0]⟩) w := zero_st te_api_Patch.ok rfl w

section
variable {H H0 : Hp} {m : Nat} {l : List (Int × Value)} {S : List Pt} {k : Int}
theorem lkpP {F : Int → Option Addr → Nat → Nat → Option Addr → Nat → Nat → Option Addr → Nat → Nat → Option Addr → Nat → Nat → Bool → Prop} (hM : MapAt fU H m l) (hE : Ents H0 l S)
    (h0 : sGet S k = none → F 0 none 0 0 none 0 0 none 0 0 none 0 0 false) (h1 : ∀ x dp dl dc mp ml mc qp ql qc hp hl hc, sGet S k = some x → PtS H0 x.id dp dl dc mp ml mc qp ql qc hp hl hc x → PtSm x → F x.id dp dl dc mp ml mc qp ql qc hp hl hc true) :
    LKP prog ty_map_uint32_api_Patch (some m) (.int .u32 k) true H fun v => tupV v fun vs => d2 vs fun wv0 wv1 => aggV wv0 fun cs => d5 cs fun wwv00 wwv01 wwv02 wwv03 wwv04 => liftI .u32 wwv00 fun x50 => liftL wwv01 fun xp51 xl52 xc53 => liftL wwv02 fun xp54 xl55 xc56 => liftL wwv03 fun xp57 xl58 xc59 => liftL wwv04 fun xp60 xl61 xc62 => liftB wv1 fun x63 => F x50 xp51 xl52 xc53 xp54 xl55 xc56 xp57 xl58 xc59 xp60 xl61 xc62 x63 := by
  refine lkp_ok (enc := fU) (a := k) kU uPt zPt hM ?_
  rcases hE.get (id := k) with ⟨e1, e2⟩ | ⟨v, x, e1, e2, e3, dp, dl, dc, mp, ml, mc, qp, ql, qc, hp, hl, hc, rfl, h2, h3⟩
  · rw [e1]; exact h0 e2
  · rw [e1]; exact h1 x _ _ _ _ _ _ _ _ _ _ _ _ e2 h2 h3
theorem lkpQ {F : Int → Option Addr → Nat → Nat → Option Addr → Nat → Nat → Option Addr → Nat → Nat → Option Addr → Nat → Nat → Prop} (hM : MapAt fU H m l) (hE : Ents H0 l S)
    (h1 : ∀ dp dl dc mp ml mc qp ql qc hp hl hc, PtS H0 ((sGet S k).getD xz).id dp dl dc mp ml mc qp ql qc hp hl hc ((sGet S k).getD xz) → PtSm ((sGet S k).getD xz) → F ((sGet S k).getD xz).id dp dl dc mp ml mc qp ql qc hp hl hc) :
    LKP prog ty_map_uint32_api_Patch (some m) (.int .u32 k) false H fun v => aggV v fun cs => d5 cs fun wwv00 wwv01 wwv02 wwv03 wwv04 => liftI .u32 wwv00 fun x50 => liftL wwv01 fun xp51 xl52 xc53 => liftL wwv02 fun xp54 xl55 xc56 => liftL wwv03 fun xp57 xl58 xc59 => liftL wwv04 fun xp60 xl61 xc62 => F x50 xp51 xl52 xc53 xp54 xl55 xc56 xp57 xl58 xc59 xp60 xl61 xc62 := by
  refine lkp_v (enc := fU) (a := k) kU uPt zPt hM ?_
  rcases hE.get (id := k) with ⟨e1, e2⟩ | ⟨v, x, e1, e2, e3, dp, dl, dc, mp, ml, mc, qp, ql, qc, hp, hl, hc, rfl, h2, h3⟩
  · rw [e1]
    rw [e2] at h1
    exact h1 _ _ _ _ _ _ _ _ _ _ _ _ xz_pt xz_sm
  · rw [e1]
    rw [e2] at h1
    exact h1 _ _ _ _ _ _ _ _ _ _ _ _ h2 h3
end

theorem store_New.c {H : Hp} {K : Option Addr → Hp → Prop} (hK : ∀ m b H', H m = none → H b = none → Le H H' → StAt H' (some ⟨b, 0, none⟩) m [] → K (some ⟨b, 0, none⟩) H') : store_New.C H K := by
  apply store_New.of
  intro m hm b hb
  have l1 := Le.upd (c := mapV [] 0) hm
  have l2 := Le.upd (c := [.map (some m)]) hb
  refine hK m b _ hm (none_of_le l1 hb) (l1.trans l2) ⟨b, [], rfl, by rw [rd_upd_self]; rfl, mapAt_new.le l2, trivial⟩

section
variable {H : Hp} {s : Option Addr} {m : Nat} {S : List Pt} {p : Option Addr} {l cc : Nat} {ids : List Int}
theorem store_Store_has_1.c {cap : Nat} {k : Int} {K : Bool → Hp → Prop} (hc : rd H cap 0 = some (.pointer s)) (hS : StAt H s m S) (hK : ∀ H', Le H H' → K (!(sGet S k).isSome) H') : store_Store_has_1.C k cap H K := by
  apply store_Store_has_1.of
  obtain ⟨b, l, rfl, h2, h3, h4⟩ := hS
  refine ldP_i hc (nil ⟨_, h2, lkpP h3 h4 (fun e => ?_) fun x dp dl dc mp ml mc qp ql qc hp hl hc e _ _ => ?_⟩)
  · refine D5.mk fun q H' _ _ l1 => ?_
    have := hK H' l1
    rw [e] at this; exact this
  · refine D5.mk fun q H' _ _ l1 => ?_
    have := hK H' l1
    rw [e] at this; exact this
theorem store_Store_has.c {K : Bool → Hp → Prop} (hS : StAt H s m S) (h : Sl fU H p l cc ids) (hl : l ≤ 1000000000) (hK : ∀ H', Le H H' → K (ids.all fun k => (sGet S k).isSome) H') : store_Store_has.C s p l cc H K := by
  apply store_Store_has.of
  intro b hb
  have l1 := Le.upd (c := [.pointer s]) hb
  have hr : rd (upd H b [.pointer s]) b 0 = some (.pointer s) := by rw [rd_upd_self]; rfl
  refine slices_ContainsFunc_uint32_uint32.c (q := fun k => !(sGet S k).isSome) (h.le l1) hl (fun Hx k _ G lx hk => ?_) fun H2 l2 => ?_
  · show store_Store_has_1.C k b Hx G
    exact store_Store_has_1.c (lx.rd hr) (hS.le (l1.trans lx)) hk
  · have e : (!ids.any fun k => !(sGet S k).isSome) = ids.all fun k => (sGet S k).isSome := by rw [Bool.eq_iff_iff]; simp [Option.isSome_iff_ne_none]
    rw [e]; exact hK _ (l1.trans l2)

/-! ### A patch more -/
def sAdd (S : List Pt) (x : Pt) : Int × List Pt :=
  if isB x = false then (10, S) else
  match sGet S x.id with
  | some y => (if y = x then 0 else 16, S)
  | none => if (x.deps.all fun d => (sGet S d).isSome) = false then (17, S) else if 60 ≤ S.length then (11, S) else (0, S ++ [x])
theorem store_Store_Add.c {id : Int} {dp mp qp hp : Option Addr} {dl dc ml mc ql qc hl hc : Nat} {x : Pt} {K : Int → Hp → Prop} (hS : StAt H s m S) (h : PtS H id dp dl dc mp ml mc qp ql qc hp hl hc x) (hs : PtSm x)
    (hK : ∀ H', StAt H' s m (sAdd S x).2 → Mod [m] H H' → K (sAdd S x).1 H') : store_Store_Add.C s id dp dl dc mp ml mc qp ql qc hp hl hc H K := by
  apply store_Store_Add.of
  intro b hb
  have l1 := Le.upd (c := [.int .u32 id, .slice dp dl dc, .slice mp ml mc, .slice qp ql qc, .slice hp hl hc]) hb
  have d := D5.new (H := H) (b := b) (id := id) (dp := dp) (dl := dl) (dc := dc) (mp := mp) (ml := ml) (mc := mc) (qp := qp) (ql := ql) (qc := qc) (hp := hp) (hl := hl) (hc := hc)
  revert l1 d
  generalize upd H b [.int .u32 id, .slice dp dl dc, .slice mp ml mc, .slice qp ql qc, .slice hp hl hc] = H1
  intro l1 d
  have hid := h.1
  subst hid
  have hsd := hs.deps
  have hdl := h.2.1.len
  refine D5.get d (patch_Is.c (h.up l1) hs fun H2 l2 => bcn (fun hr => ?_) fun hr => ?_)
  · have e : sAdd S x = (10, S) := by unfold sAdd; rw [if_pos hr]
    rw [e] at hK
    exact hK _ (hS.le (l1.trans l2)) (l1.trans l2).mod
  have lk2 : ∀ H3, Le H2 H3 → sGet S x.id = none → store_Store_Add.k2 K b s H3 := fun H3 l3 hg => by
    have l13 := (l1.trans l2).trans l3
    have d3 := (d.le l2).le l3
    unfold store_Store_Add.k2
    refine ldL_i d3.2.1 (store_Store_has.c (hS.le l13) (h.2.1.le l13) (by omega) fun H4 l4 => bcn (fun hh => ?_) fun hh => ?_)
    · have e : sAdd S x = (17, S) := by unfold sAdd; rw [hr, if_neg (by decide), hg]; simp only; rw [if_pos hh]
      rw [e] at hK
      exact hK _ (hS.le (l13.trans l4)) (l13.trans l4).mod
    have l14 := l13.trans l4
    have hS4 := hS.le l14
    obtain ⟨q, l, rfl, h2, h3, h4⟩ := hS4
    refine nil ⟨_, h2, mlen uPt h3 (bcd (fun hle => ?_) fun hle => ?_)⟩
    · have hle' : 60 ≤ S.length := by have := h4.len; omega
      have e : sAdd S x = (11, S) := by unfold sAdd; rw [hr, if_neg (by decide), hg]; simp only; rw [hh, if_neg (by decide), if_pos hle']
      rw [e] at hK
      exact hK _ (hS.le l14) l14.mod
    have hle' : ¬ 60 ≤ S.length := by have := h4.len; omega
    have e : sAdd S x = (0, S ++ [x]) := by unfold sAdd; rw [hr, if_neg (by decide), hg]; simp only; rw [hh, if_neg (by decide), if_neg hle']
    rw [e] at hK
    have d4 := d3.le l4
    refine nil ⟨_, h2, ldI_i d4.1 (D5.get d4 (patch_Copy.c (h.up l14) hs fun p1 c1 p2 c2 p3 c3 p4 c4 zs H5 l5 ho => ?_))⟩
    refine ⟨(d4.le l5).1, l5.rd h2, mup (enc := fU) (a := x.id) kU uPt (h3.le l5) fun H6 hM6 hm6 _ => ?_⟩
    have hno : mget l x.id = none := by
      rcases h4.get (id := x.id) with ⟨e1, _⟩ | ⟨v, y, _, e2, _⟩
      · exact e1
      · rw [hg] at e2; cases e2
    unfold mset at hM6
    rw [hno] at hM6
    have lr6 := (h3.le l5).lr hm6
    exact hK H6 ⟨q, _, rfl, lr6 _ _ _ (l5.rd h2), hM6, ((h4.lr l5.lr).lr lr6).snoc ⟨p1, _, c1, p2, _, c2, p3, _, c3, p4, _, c4, rfl, ho.pt.lr lr6, hs⟩⟩ (Mod.trans (l14.trans l5).mod hm6)
  have lk1 : ∀ H3 o y dp' dl' dc' mp' ml' mc' qp' ql' qc' hp' hl' hc', Le H2 H3 → sGet S x.id = some y → D5 H3 o y.id dp' dl' dc' mp' ml' mc' qp' ql' qc' hp' hl' hc' → PtS H3 y.id dp' dl' dc' mp' ml' mc' qp' ql' qc' hp' hl' hc' y → PtSm y → store_Store_Add.k1 K b s o true H3 := fun H3 o y dp' dl' dc' mp' ml' mc' qp' ql' qc' hp' hl' hc' l3 hg ho hy hsy => by
    have l13 := (l1.trans l2).trans l3
    have d3 := (d.le l2).le l3
    unfold store_Store_Add.k1
    refine bcT (D5.get ho (D5.get d3 (patch_Same.c hy (h.up l13) hsy fun H4 l4 => bcd (fun hh => ?_) fun hh => ?_)))
    · have e : sAdd S x = (0, S) := by unfold sAdd; rw [hr, if_neg (by decide), hg]; simp only; rw [if_pos hh]
      rw [e] at hK
      exact hK _ (hS.le (l13.trans l4)) (l13.trans l4).mod
    · have e : sAdd S x = (16, S) := by unfold sAdd; rw [hr, if_neg (by decide), hg]; simp only; rw [if_neg hh]
      rw [e] at hK
      exact hK _ (hS.le (l13.trans l4)) (l13.trans l4).mod
  have hS2 := hS.le (l1.trans l2)
  obtain ⟨q, l, hsq, h2, h3, h4⟩ := hS2
  rw [hsq]
  rw [hsq] at lk1 lk2
  refine nil ⟨_, h2, ldI_i (d.le l2).1 ⟨?_, ?_⟩⟩
  · refine lkpP h3 h4 (fun e => ?_) fun y dp' dl' dc' mp' ml' mc' qp' ql' qc' hp' hl' hc' e hy hsy => ?_
    · refine D5.mk fun o H3 _ _ l3 => ?_
      unfold store_Store_Add.k1
      exact bcF (lk2 H3 l3 e)
    · refine D5.mk fun o H3 _ ho l3 => lk1 H3 o y _ _ _ _ _ _ _ _ _ _ _ _ l3 e ho (hy.up l3) hsy
  · refine fun o ho => ?_
    have l3 := Le.upd (c := [.int .u32 (0 : Int), .slice none 0 0, .slice none 0 0, .slice none 0 0, .slice none 0 0]) ho
    have e3 := D5.new (H := H2) (b := o) (id := (0 : Int)) (dp := none) (dl := 0) (dc := 0) (mp := none) (ml := 0) (mc := 0) (qp := none) (ql := 0) (qc := 0) (hp := none) (hl := 0) (hc := 0)
    revert l3 e3
    generalize upd H2 o [.int .u32 (0 : Int), .slice none 0 0, .slice none 0 0, .slice none 0 0, .slice none 0 0] = H3
    intro l3 e3
    refine ⟨((d.le l2).le l3).1, l3.rd h2, lkpP (h3.le l3) h4 (fun e => ?_) fun y dp' dl' dc' mp' ml' mc' qp' ql' qc' hp' hl' hc' e hy hsy => ?_⟩
    · refine put5 e3 fun H4 ho4 m4 _ => ?_
      have l4 : Le H2 H4 := m4.le l3 fun b hb => by simp at hb; subst hb; exact ho
      unfold store_Store_Add.k1
      exact bcF (lk2 H4 l4 e)
    · refine put5 e3 fun H4 ho4 m4 _ => ?_
      have l4 : Le H2 H4 := m4.le l3 fun b hb => by simp at hb; subst hb; exact ho
      exact lk1 H4 o y _ _ _ _ _ _ _ _ _ _ _ _ l4 e ho4 (hy.up l4) hsy
end
end Go.Proofs.Ytbpbgkpkkklipaa
namespace Go.Proofs.Ytbpbgkpkkklipaa
open Go.V
/-! ### Numbers, rising -/
def setL (ids : List Int) : List Int := uniqL Sort.ltInt ids
theorem setL_mem {ids : List Int} {k : Int} : k ∈ setL ids ↔ k ∈ ids := uniqL_mem
theorem setL_pw (ids : List Int) : (setL ids).Pairwise fun a b => Sort.ltInt a b = true := uniqL_pw ltInt_tr fun _ _ => ltInt_anti
theorem setL_eq {xs ids : List Int} (h : xs.Pairwise fun a b => Sort.ltInt a b = true) (hm : ∀ k, k ∈ xs ↔ k ∈ ids) : xs = setL ids :=
  sorted_lt_mem ltInt_irr (fun _ _ => ltInt_anti) ltInt_tr h (setL_pw ids) fun k => by rw [hm, setL_mem]
theorem Own.modN {A H H' : Hp} {id : Int} {dp mp qp hp : Option Addr} {dl dc ml mc ql qc hl hc b : Nat} {x : Pt} {zs : List (BL × HD)} (h : Own A H id dp dl dc mp ml mc qp ql qc hp hl hc x zs) (hm : Mod [b] H H') (hb : A b ≠ none) : Own A H' id dp dl dc mp ml mc qp ql qc hp hl hc x zs := by
  obtain ⟨h1, h2, h3, h4, ⟨h5, h6, h7⟩, h8⟩ := h
  have key : ∀ {s : Nat} {p : Option Addr} {l c : Nat} {cells : List Value}, Buf s A H p l c cells → Buf s A H' p l c cells := fun hB => hB.mod hm fun b' o e hb' => by
    simp at hb'; subst hb'
    exact hb (hB.fr b' o e)
  exact ⟨h1, key h2, key h3, key h4, ⟨h5, key h6, fun j j1 j2 => ⟨(h7 j j1 j2).1, key (h7 j j1 j2).2.1, key (h7 j j1 j2).2.2.1, key (h7 j j1 j2).2.2.2⟩⟩, h8⟩
section
variable {H : Hp} {s : Option Addr} {m : Nat} {S : List Pt} {p : Option Addr} {l cc : Nat} {ids : List Int}
theorem store_set.c {K : Option Addr → Nat → Nat → Hp → Prop} (h : Sl fU H p l cc ids) (hl : l ≤ 1000000) (hK : ∀ p' l' c' H', Le H H' → Sl fU H' p' l' c' (setL ids) → New H p' → PtOk p' → K p' l' c' H') : store_set.C p l cc H K := by
  apply store_set.of
  refine slices_Clone_uint32_uint32.c h hl fun p1 c1 H1 l1 hB => ?_
  refine slices_Sort_uint32_uint32.c hB.sl (by omega) fun H2 ys s2 hp hw m2 => ?_
  refine slices_Compact_uint32_uint32.c s2 (by omega) fun l3 H3 s3 m3 => ?_
  have hn : ∀ b ∈ blkL p1, H b = none := fun b hb => hB.fr b 0 (blkL_mem hB.zero hb)
  have l3' : Le H H3 := m3.le (m2.le l1 hn) hn
  rw [dd_uniq ltInt_irr ltInt_tr (fun _ _ => ltInt_anti) hp hw] at s3
  exact hK p1 l3 c1 H3 l3' s3 hB.fr hB.pt

/-- The keys of a map of patches. -/
def keysV (q : Nat) : Value := .func (.func maps_Keys_map_uint32_api_Patch_uint32_api_Patch_1.num) ⟨[]⟩ ⟨[.pointer (some ⟨q, 0, none⟩)]⟩
theorem slices_AppendSeq_uint32_uint32.k {q m : Nat} {l : List (Int × Value)} {K : Option Addr → Nat → Nat → Hp → Prop} (hq : rd H q 0 = some (.map (some m))) (hM : MapAt fU H m l) (hl : l.length ≤ 1000000)
    (hK : ∀ p c (ys : List Int) H', Le H H' → Buf 1 H H' p ys.length c (ys.map fU) → ys.Perm (l.map (·.1)) → K p ys.length c H') : slices_AppendSeq_uint32_uint32.C none 0 0 (keysV q) H K := by
  apply slices_AppendSeq_uint32_uint32.of
  intro v hv
  have l1 := Le.upd (c := [.slice none 0 0]) hv
  have hA0 : Acc 1 H (upd H v [.slice none 0 0]) v [v] [] := Acc.start hv l1 (by rw [rd_upd_self]; rfl)
  revert l1 hA0
  generalize upd H v [.slice none 0 0] = H1
  intro l1 hA0
  show maps_Keys_map_uint32_api_Patch_uint32_api_Patch_1.I q H1 _ _
  apply maps_Keys_map_uint32_api_Patch_uint32_api_Patch_1.of
  refine ⟨_, l1.rd hq, rng uPt (hM.le l1) fun r H2 hr l2 hI hN => ?_⟩
  have hvr : v ≠ r := fun e => by subst e; exact hA0.there v (by simp) hr
  have hvm : v ≠ m := fun e => by subst e; exact hM.some hv
  refine ⟨fun Hx => ∃ (rest : List (Int × Value)) (ys : List Int) (T : List Nat), IterAt fU Hx r m rest ∧ Acc 1 H Hx v T (ys.map fU) ∧ r ∉ T ∧ m ∉ T ∧ (ys ++ rest.map (·.1)).Perm (l.map (·.1)) ∧ itN Hx r + rest.length = l.length + 1,
    fun Hx => l.length + 1 - itN Hx r, ⟨l, [], [v], hI, hA0.le l2, by simpa using Ne.symm hvr, by simpa using Ne.symm hvm, by simp, by omega⟩, ?_⟩
  rintro Hx ⟨rest, ys, T, hI, hA, hrT, hmT, hp, hn⟩
  refine nxt hI (fun e => ?_) fun i hi rs H3 hI3 hL3 m3 e3 hn3 => ?_
  · subst e
    simp only [List.map_nil, List.append_nil] at hp
    refine hA.end fun p l' c hB => ?_
    have e : l' = ys.length := by have := hB.1; simpa using this
    subst e
    exact hK p c ys Hx hA.1 hB hp
  · refine ent hL3 ?_
    have hT : ∀ x ∈ T, x ∉ [r] := fun x hx hxr => by simp at hxr; subst hxr; exact hrT hx
    have hA3 : Acc 1 H H3 v T (ys.map fU) := by
      obtain ⟨h1, h2, p, l', c, rfl, h3, h4, h5⟩ := hA
      have hr0 : H r = none := none_of_le l1 hr
      exact ⟨m3.le h1 (by simpa using hr0), h2, p, l', c, rfl, m3.rd (hT v (by simp)) h3, h4.mod m3 fun b o e => hT b (by simp [blkL, e]), h5⟩
    have hlen : ys.length ≤ l.length := by
      have := hp.length_eq
      simp at this
      omega
    refine hA3.push (te := te_uint32) rfl (by decide) rfl (by decide) rfl rfl (by simp [te_uint32]; omega) fun T' H4 hA4 m4 hT' => ?_
    refine alOn ⟨⟨rest.eraseIdx i, ys ++ [rest[i].1], T', hI3.mod m4 hrT hmT, by simpa using hA4, ?_, ?_, ?_, ?_⟩, ?_⟩
    · intro hr'
      rcases hT' r hr' with h | h
      · exact hrT h
      · obtain ⟨es, c, since, seen, last, l', _, _, h3, _⟩ := hI3
        rw [h] at h3; cases h3
    · intro hr'
      rcases hT' m hr' with h | h
      · exact hmT h
      · obtain ⟨es, c, since, seen, last, l', h3, _⟩ := hI3
        rw [h] at h3; cases h3
    · refine List.Perm.trans ?_ hp
      rw [List.append_assoc]
      refine List.Perm.append_left _ ?_
      have e : rest = rest.take i ++ rest[i] :: rest.drop (i + 1) := by rw [← List.drop_eq_getElem_cons hi, List.take_append_drop]
      rw [List.eraseIdx_eq_take_drop_succ]
      conv => rhs; rw [e]
      simp only [List.map_append, List.map_cons, List.singleton_append]
      exact List.perm_middle.symm
    · have e4 : itN H4 r = itN H3 r := by
        obtain ⟨es, c, since, seen, last, l', _, _, h3, _⟩ := hI3
        unfold itN
        rw [h3, m4 r hrT _ h3]
      rw [e4, hn3, List.length_eraseIdx, if_pos hi]
      omega
    · have e4 : itN H4 r = itN H3 r := by
        obtain ⟨es, c, since, seen, last, l', _, _, h3, _⟩ := hI3
        unfold itN
        rw [h3, m4 r hrT _ h3]
      dsimp only
      rw [e4, hn3]
      omega
theorem slices_Sorted_uint32.k {q m : Nat} {l : List (Int × Value)} {K : Option Addr → Nat → Nat → Hp → Prop} (hq : rd H q 0 = some (.map (some m))) (hM : MapAt fU H m l) (hl : l.length ≤ 1000000)
    (hK : ∀ p l' c H', Le H H' → Sl fU H' p l' c (setL (l.map (·.1))) → New H p → PtOk p → K p l' c H') : slices_Sorted_uint32.C (keysV q) H K := by
  apply slices_Sorted_uint32.of
  apply slices_Collect_uint32.of
  refine slices_AppendSeq_uint32_uint32.k hq hM hl fun p c ys H1 l1 hB hp => ?_
  have hlen : ys.length ≤ 1000000 := by have := hp.length_eq; simp at this; omega
  refine slices_Sort_uint32_uint32.c hB.sl (by omega) fun H2 zs s2 hp2 hw m2 => ?_
  have hn : ∀ b ∈ blkL p, H b = none := fun b hb => hB.fr b 0 (blkL_mem hB.zero hb)
  have e : zs = setL (l.map (·.1)) := by
    have hnd : zs.Nodup := (hp2.trans hp).nodup_iff.2 hM.nodup
    refine setL_eq ?_ fun k => (hp2.trans hp).mem_iff
    refine List.Pairwise.imp₂ (fun a b h1 h2 => ?_) hw hnd
    cases h : Sort.ltInt a b with
    | true => rfl
    | false => exact absurd (ltInt_anti h h1) h2
  rw [e] at s2
  exact hK p _ c H2 (m2.le l1 hn) s2 hB.fr hB.pt
def sIds (S : List Pt) : List Int := setL (S.map (·.id))
theorem store_Store_IDs.c {K : Option Addr → Nat → Nat → Hp → Prop} (hS : StAt H s m S) (hl : S.length ≤ 1000000) (hK : ∀ p l' c H', Le H H' → Sl fU H' p l' c (sIds S) → New H p → PtOk p → K p l' c H') : store_Store_IDs.C s H K := by
  apply store_Store_IDs.of
  obtain ⟨b, l, rfl, h2, h3, h4⟩ := hS
  refine nil ⟨_, h2, ?_⟩
  apply maps_Keys_map_uint32_api_Patch_uint32_api_Patch.of
  intro q hq
  have l1 := Le.upd (c := [.map (some m)]) hq
  refine slices_Sorted_uint32.k (q := q) (by rw [rd_upd_self]; rfl) (h3.le l1) (by rw [h4.len]; omega) fun p l' c H2 l2 s2 hp ho => ?_
  have e : setL (l.map (·.1)) = sIds S := by unfold sIds; rw [h4.keys]
  rw [e] at s2
  exact hK p l' c H2 (l1.trans l2) s2 (hp.le l1) ho

/-! ### One patch -/
theorem store_Store_Get.c {k : Int} {K : Int → Option Addr → Nat → Nat → Option Addr → Nat → Nat → Option Addr → Nat → Nat → Option Addr → Nat → Nat → Bool → Hp → Prop} (hS : StAt H s m S)
    (h0 : sGet S k = none → ∀ H', Le H H' → K 0 none 0 0 none 0 0 none 0 0 none 0 0 false H')
    (h1 : ∀ x p1 c1 p2 c2 p3 c3 p4 c4 H' l1 l2 l3 l4 zs A, sGet S k = some x → Le H H' → Le H A → Own A H' x.id p1 l1 c1 p2 l2 c2 p3 l3 c3 p4 l4 c4 x zs → PtSm x → K x.id p1 l1 c1 p2 l2 c2 p3 l3 c3 p4 l4 c4 true H') : store_Store_Get.C s k H K := by
  apply store_Store_Get.of
  intro b hb
  have l1 := Le.upd (c := [.int .u32 (0 : Int), .slice none 0 0, .slice none 0 0, .slice none 0 0, .slice none 0 0]) hb
  have d := D5.new (H := H) (b := b) (id := (0 : Int)) (dp := none) (dl := 0) (dc := 0) (mp := none) (ml := 0) (mc := 0) (qp := none) (ql := 0) (qc := 0) (hp := none) (hl := 0) (hc := 0)
  revert l1 d
  generalize upd H b [.int .u32 (0 : Int), .slice none 0 0, .slice none 0 0, .slice none 0 0, .slice none 0 0] = H1
  intro l1 d
  have hS1 := hS.le l1
  obtain ⟨q, l, hsq, h2, h3, h4⟩ := hS1
  subst hsq
  refine nil ⟨_, h2, lkpP h3 h4 (fun e => ?_) fun x dp dl dc mp ml mc qp ql qc hp hl hc e hx hsx => ?_⟩
  · refine D5.mk fun o H2 _ _ l2 => bcT (put5 (d.le l2) fun H3 d3 m3 _ => ?_)
    have l3 : Le H H3 := m3.le (l1.trans l2) fun b' hb' => by simp at hb'; subst hb'; exact hb
    exact D5.get d3 (h0 e H3 l3)
  · refine D5.mk fun o H2 _ d2 l2 => bcF (D5.get d2 (patch_Copy.c (hx.up l2) hsx fun p1 c1 p2 c2 p3 c3 p4 c4 zs H3 l3 ho => ?_))
    have hb2 : H2 b ≠ none := (d.le l2).there
    refine put5 ((d.le l2).le l3) fun H4 d4 m4 _ => ?_
    have l4 : Le H H4 := m4.le ((l1.trans l2).trans l3) fun b' hb' => by simp at hb'; subst hb'; exact hb
    refine D5.get d4 (h1 x _ _ _ _ _ _ _ _ H4 _ _ _ _ zs H2 e l4 (l1.trans l2) ?_ hsx)
    exact Own.modN ho m4 hb2
end
end Go.Proofs.Ytbpbgkpkkklipaa
namespace Go.Proofs.Ytbpbgkpkkklipaa
open Go.V
/-! ### What is needed -/
inductive Reach (S : List Pt) (ids : List Int) : Int → Prop
  | base {k : Int} (h : k ∈ ids) : Reach S ids k
  | step {k d : Int} {x : Pt} (h : Reach S ids k) (hx : sGet S k = some x) (hd : d ∈ x.deps) : Reach S ids d
/-- Rising; what is needed and nothing else. -/
def NeedOf (S : List Pt) (ids n : List Int) : Prop := n.Pairwise (fun a b => Sort.ltInt a b = true) ∧ ∀ k, k ∈ n ↔ Reach S ids k
theorem Reach.in {S : List Pt} {ids : List Int} {k : Int} (h : Reach S ids k) : k ∈ ids ++ S.flatMap (·.deps) := by
  cases h with
  | base h => exact List.mem_append_left _ h
  | step h hx hd => exact List.mem_append_right _ (List.mem_flatMap.2 ⟨_, (sGet_some hx).1, hd⟩)
def depsOf (S : List Pt) (k : Int) : List Int := ((sGet S k).getD xz).deps
theorem Reach.dep {S : List Pt} {ids : List Int} {k d : Int} (h : Reach S ids k) (hd : d ∈ depsOf S k) : Reach S ids d := by
  unfold depsOf at hd
  cases hg : sGet S k with
  | none => rw [hg] at hd; cases hd
  | some x => rw [hg] at hd; exact h.step hg hd

theorem uBool : prog.underlying ty_map_uint32_bool = some (.map ty_uint32 ty_bool) := by kernel_rfl
theorem zBool (w : World) : (zeroValue ty_bool).run prog w = .ok (.bool false) w := zero_sc te_bool.ok rfl rfl w
theorem lkpB {H : Hp} {q : Nat} {ys : List Int} {k : Int} {F : Bool → Prop} (hM : MapAt fU H q (ys.map fun k => (k, .bool true))) (hF : F (decide (k ∈ ys))) :
    LKP prog ty_map_uint32_bool (some q) (.int .u32 k) false H fun v => liftB v fun x => F x := by
  refine lkp_v (enc := fU) (a := k) kU uBool zBool hM ?_
  by_cases hk : k ∈ ys
  · rw [mget_of hM.nodup (List.mem_map.2 ⟨k, hk, rfl⟩)]
    rw [decide_eq_true hk] at hF; exact hF
  · rw [mget_none.2 fun p hp e => hk (by obtain ⟨y, hy, rfl⟩ := List.mem_map.1 hp; subst e; exact hy)]
    rw [decide_eq_false hk] at hF; exact hF

theorem nodup_len {α : Type} [DecidableEq α] : ∀ {xs zs : List α}, xs.Nodup → (∀ x ∈ xs, x ∈ zs) → xs.length ≤ zs.length
  | [], _, _, _ => Nat.zero_le _
  | x :: xs, zs, hn, h => by
    rw [List.nodup_cons] at hn
    have := nodup_len (zs := zs.erase x) hn.2 fun y hy => (List.mem_erase_of_ne (by rintro rfl; exact hn.1 hy)).2 (h y (List.mem_cons_of_mem _ hy))
    rw [List.length_erase_of_mem (h x (by simp))] at this
    have hp := List.length_pos_of_mem (h x (by simp))
    rw [List.length_cons]; omega
theorem mem_dropLast_or {α : Type} {xs : List α} {x : α} (h : x ∈ xs) (hne : xs ≠ []) : x ∈ xs.dropLast ∨ x = xs.getLast hne := by
  rw [← List.dropLast_concat_getLast hne] at h
  simpa using h
section
variable {A H : Hp} {s : Option Addr} {m v : Nat} {S : List Pt} {p : Option Addr} {l cc : Nat} {ids : List Int}
theorem store_Store_needed_1.c {cap2 cap3 : Nat} {G : Int → Hp → (Al → Hp → Prop) → Prop} {K : Al → Hp → Prop} (hA0 : Acc 1 A H v [v] []) (hc2 : rd H cap2 0 = some (.slice p l cc)) (hc3 : rd H cap3 0 = some (.pointer s)) (h3v : cap3 ≠ v)
    (hd : Sl fU A p l cc ids) (hl : l ≤ 1000000) (hS : StAt A s m S) (hSl : S.length ≤ 1000)
    (hG : ∀ (ys : List Int) k Hx T (Kb : Al → Hp → Prop), Acc 1 A Hx v T (ys.map fU) → ys.length ≤ 2000000 → (∀ T' H', Acc 1 A H' v T' ((ys ++ [k]).map fU) → Mod T Hx H' → (∀ x ∈ T', x ∈ T ∨ Hx x = none) → Kb .on H') → G k Hx Kb)
    (hK : ∀ (ys : List Int) T Hx, Acc 1 A Hx v T (ys.map fU) → ys.Nodup → (∀ k, k ∈ ys ↔ Reach S ids k) → K .on Hx) : store_Store_needed_1.I cap2 cap3 H G K := by
  apply store_Store_needed_1.of
  intro q hq
  have l1 := Le.upd (c := mapV [] 0) hq
  have hM0 : MapAt fU (upd H q (mapV [] 0)) q [] := mapAt_new
  revert l1 hM0
  generalize upd H q (mapV [] 0) = H1
  intro l1 hM0
  have hA := hA0.1
  have hvq : q ∉ [v] := by
    intro h; simp at h; subst h; exact hA0.there q (by simp) hq
  have el := hd.len
  refine ldL_i (l1.rd hc2) (slices_Clone_uint32_uint32.c ((hd.le hA).le l1) hl fun p1 c1 H2 l2 hB => ?_)
  have hsd : ∀ x ∈ S, x.deps.length ≤ 1000 := by
    obtain ⟨b, l', _, _, _, h4⟩ := hS
    intro x hx
    have key : ∀ {l : List (Int × Value)} {S : List Pt}, Ents A l S → ∀ x ∈ S, PtSm x := fun {l} => by
      induction l with
      | nil => intro S h x hx; cases S with
        | nil => cases hx
        | cons => exact h.elim
      | cons e l ih => intro S h x hx; cases S with
        | nil => cases hx
        | cons y S =>
          rcases List.mem_cons.1 hx with rfl | hx
          · obtain ⟨_, _, _, _, _, _, _, _, _, _, _, _, _, _, h⟩ := h.2.1
            exact h
          · exact ih h.2.2 x hx
    exact (key h4 x hx).deps
  have hU : ∀ ys : List Int, ys.Nodup → (∀ k ∈ ys, Reach S ids k) → ys.length ≤ ids.length + 1000 * S.length := fun ys hn hr => by
    have h1 := nodup_len hn (fun k hk => (hr k hk).in)
    have h2 : (S.flatMap (·.deps)).length ≤ 1000 * S.length := by
      clear hS hG hK hr h1
      induction S with
      | nil => simp
      | cons x S ih =>
        have := ih (by simp at hSl; omega) (fun y hy => hsd y (List.mem_cons_of_mem _ hy))
        have h3 := hsd x (by simp)
        simp only [List.flatMap_cons, List.length_append, List.length_cons]
        omega
    rw [List.length_append] at h1
    omega
  have hN : ids.length + 1000 * S.length ≤ 2000000 := by omega
  refine ⟨fun p l c Hx => ∃ (left ys : List Int) (T : List Nat), MapAt fU Hx q (ys.map fun k => (k, Value.bool true)) ∧ Acc 1 A Hx v T (ys.map fU) ∧ Buf 1 A Hx p l c (left.map fU) ∧ Le A Hx ∧ rd Hx cap3 0 = some (.pointer s) ∧ q ∉ T ∧ cap3 ∉ T ∧ Apart p (some ⟨v, 0, none⟩) ∧ (∀ x ∈ T, x ∉ blkL p) ∧
      (∀ k ∈ ys, Reach S ids k) ∧ (∀ k ∈ left, Reach S ids k) ∧ (∀ k ∈ ids, k ∈ ys ∨ k ∈ left) ∧ (∀ k ∈ ys, ∀ d ∈ depsOf S k, d ∈ ys ∨ d ∈ left) ∧ left.length ≤ 1000000 + 1000 * ys.length,
    fun p l c Hx => 1001 * (ids.length + 1000 * S.length + 2 - itN Hx q) + l, ?_, ?_⟩
  · refine ⟨ids, [], [v], hM0.le l2, (hA0.le l1).le l2, bBack hB (hA.trans l1), (hA.trans l1).trans l2, (l1.trans l2).rd hc3, hvq, by simpa using h3v, ?_, ?_, by simp, fun k hk => .base hk, fun k hk => .inr hk, by simp, by simp; omega⟩
    · intro b o o' e e'
      simp only [Option.some.injEq, Addr.mk.injEq] at e'
      obtain ⟨rfl, _⟩ := e'
      exact (hA0.le l1).there v (by simp) (hB.fr v o e)
    · intro x hx hb
      simp at hx; subst hx
      exact (hA0.le l1).there x (by simp) (hB.fr x 0 (blkL_mem hB.zero hb))
  rintro p' l' c' Hx ⟨left, ys, T, hM, hAc, hBl, lA, hr3, hqT, h3T, hap, hTp, hry, hrl, hids, hdep, hll⟩
  have hnd : ys.Nodup := by have := hM.nodup; rw [List.map_map] at this; simpa [Function.comp_def] using this
  have hlen : l' = left.length := by have := hBl.1; simpa using this
  have hyl := hU ys hnd hry
  have hN1 := hM.itN
  rw [List.length_map] at hN1
  refine bcd (fun hpos => ?_) fun hpos => ?_
  · have hne : left ≠ [] := fun e => by subst e; simp at hlen; omega
    have hpl : 0 < l' := by omega
    have hlast : left[l' - 1]'(by omega) = left.getLast hne := by rw [List.getLast_eq_getElem]; congr 1; omega
    refine chk (by omega) (idxN (l' - 1) (by omega) (by omega) ?_)
    obtain ⟨b, o, rfl, hrd⟩ := hBl.sl.at (i := l' - 1) (by omega)
    refine nil (ldI_i (hrd (l' - 1) (by omega)) (chk (by omega) (bnd01 (l' - 1) (by omega) (by have := hBl.sl.2.1; omega) ?_)))
    rw [hlast]
    have hpop := hBl.pop hpl
    rw [← List.map_dropLast] at hpop
    generalize hk : left.getLast hne = k
    have hkr : Reach S ids k := hrl k (by rw [← hk]; exact List.getLast_mem hne)
    have hpmov : movA (some ⟨b, o, none⟩) 0 1 c' = some ⟨b, o, none⟩ := by unfold movA mulS; simp
    rw [hpmov] at hpop ⊢
    refine lkpB hM (bcd (fun hin => ?_) fun hin => ?_)
    · refine ⟨⟨left.dropLast, ys, T, hM, hAc, hpop, lA, hr3, hqT, h3T, hap, hTp, hry, fun k hk => hrl k (List.dropLast_subset _ hk), fun k' hk' => ?_, fun k' hk' d hd => ?_, by rw [List.length_dropLast]; omega⟩, by dsimp only; omega⟩
      · rcases hids k' hk' with h | h
        · exact .inl h
        · rcases mem_dropLast_or h hne with h | h
          · exact .inr h
          · left; rw [h, hk]; exact hin
      · rcases hdep k' hk' d hd with h | h
        · exact .inl h
        · rcases mem_dropLast_or h hne with h | h
          · exact .inr h
          · left; rw [h, hk]; exact hin
    have hAq : A q = none := none_of_le hA hq
    refine mup (enc := fU) (a := k) kU uBool hM fun H3 hM3 m3 _ => ?_
    have hset : mset (ys.map fun k => (k, Value.bool true)) k (.bool true) = (ys ++ [k]).map fun k => (k, Value.bool true) := by
      unfold mset
      rw [mget_none.2 fun p hp e => hin (by obtain ⟨y, hy, rfl⟩ := List.mem_map.1 hp; subst e; exact hy)]
      simp
    rw [hset] at hM3
    have hqb : ∀ (b o : Nat), some (⟨b, o, none⟩ : Addr) = some ⟨b, o, none⟩ → True := fun _ _ _ => trivial
    have hbq : b ≠ q := by
      intro e
      subst e
      have := hrd (l' - 1) (by omega)
      rw [hM.no] at this; cases this
    have hA3 := hAc.mod m3 (by simpa using hAq) (fun x hx hxq => by simp at hxq; subst hxq; exact hqT hx)
    have hB3 := hpop.mod m3 (fun b' o' e => by simp at e; obtain ⟨rfl, _⟩ := e; simpa using hbq)
    have l3 : Le A H3 := m3.le lA (by simpa using hAq)
    have hr33 : rd H3 cap3 0 = some (.pointer s) := hM.lr m3 _ _ _ hr3
    have hnd2 : (ys ++ [k]).Nodup := by have := hM3.nodup; rw [List.map_map] at this; simpa [Function.comp_def] using this
    have hry2 : ∀ k' ∈ ys ++ [k], Reach S ids k' := fun k' hk' => by
      simp at hk'
      rcases hk' with h | rfl
      · exact hry k' h
      · exact hkr
    have hyl2 := hU _ hnd2 hry2
    rw [List.length_append, List.length_singleton] at hyl2
    refine hG ys k H3 T _ hA3 (by omega) fun T' H4 hA4 m4 hT' => alOn ?_
    have hM4 : MapAt fU H4 q _ := hM3.mod m4 hqT
    have hbT : ∀ x ∈ T, x ≠ b := fun x hx e => hTp x hx (by simp [blkL, e])
    have hB4 := hB3.mod m4 (fun b' o' e => by simp at e; obtain ⟨rfl, _⟩ := e; exact fun h => hbT _ h rfl)
    have l4 : Le A H4 := hA4.1
    have hr4 : rd H4 cap3 0 = some (.pointer s) := m4.rd h3T hr33
    have hS4 := hS.le l4
    obtain ⟨bs, ls, rfl, hs2, hs3, hs4⟩ := hS4
    refine ldP_i hr4 (nil ⟨_, hs2, lkpQ hs3 hs4 fun dp dl dc _ _ _ _ _ _ _ _ _ hx hsx => ?_⟩)
    have hdl : dl = (depsOf S k).length := hx.2.1.len
    have hdx : (depsOf S k).length ≤ 1000 := hsx.deps
    have hqT' : q ∉ T' := fun h => by
      rcases hT' q h with h | h
      · exact hqT h
      · exact hM3.some h
    have h3T' : cap3 ∉ T' := fun h => by
      rcases hT' cap3 h with h | h
      · exact h3T h
      · exact ne_none_of_rd hr33 h
    have hbT' : ∀ x ∈ T', x ≠ b := fun x hx e => by
      rcases hT' x hx with h | h
      · exact hbT x h e
      · subst e
        rcases hB3.2 with ⟨h0, _⟩ | ⟨b', r, h1, _, h3, _⟩
        · cases h0
        · simp at h1; obtain ⟨rfl, _⟩ := h1; rw [h3] at h; cases h
    have hAb : A b = none := hB4.fr b o rfl
    refine hB4.appS (te := te_uint32) (new := (depsOf S k).map fU) (n := dl) rfl (by decide) rfl (by decide) (by rw [List.length_map, hdl]; omega) (by simp [fU, isCell]) (by simp [te_uint32]; omega) (fun G hg => sl_src hx.2.1 G hg) (fun p5 c5 H5 hB5 hp5 m5 => ?_) l4.was
    have hTb : ∀ x ∈ T', x ∉ blkL (some (⟨b, o, none⟩ : Addr)) := fun x hx' h => hbT' x hx' (by simpa [blkL] using h)
    have hA5 := hA4.mod m5 (fun x hx' => by simp [blkL] at hx'; subst hx'; exact hAb) hTb
    have hp5T : ∀ x ∈ T', x ∉ blkL p5 := fun x hx' h => by
      rcases hp5 with rfl | hp5
      · exact hTb x hx' h
      · exact hA4.there x hx' (hp5 x 0 (blkL_mem hB5.zero h))
    rw [← List.map_append] at hB5
    refine ⟨⟨left.dropLast ++ depsOf S k, ys ++ [k], T', hM4.mod m5 (by simpa [blkL] using Ne.symm hbq), hA5, hB5, hA5.1, m5.rd (fun h => ?_) hr4, hqT', h3T', ?_, hp5T, hry2, fun k' hk' => ?_, fun k' hk' => ?_, fun k' hk' d hd => ?_, ?_⟩, ?_⟩
    · simp [blkL] at h
      subst h
      rcases hBl.2 with ⟨h0, _⟩ | ⟨b', r, h1, _⟩
      · cases h0
      · simp only [Option.some.injEq, Addr.mk.injEq, and_true] at h1
        obtain ⟨rfl, rfl⟩ := h1
        have := hrd 0 (by omega)
        rw [Nat.zero_add, hr3] at this
        cases this
    · intro b' o' o'' e e'
      simp only [Option.some.injEq, Addr.mk.injEq] at e'
      obtain ⟨rfl, _⟩ := e'
      have hvT' : v ∈ T' := by obtain ⟨_, _, _, _, _, rfl, _⟩ := hA4; simp
      exact hp5T v hvT' (by rw [e]; simp [blkL])
    · rcases List.mem_append.1 hk' with h | h
      · exact hrl k' (List.dropLast_subset _ h)
      · exact hkr.dep h
    · rcases hids k' hk' with h | h
      · exact .inl (List.mem_append_left _ h)
      · rcases mem_dropLast_or h hne with h | h
        · exact .inr (List.mem_append_left _ h)
        · left; rw [h, hk]; simp
    · rcases List.mem_append.1 hk' with h | h
      · rcases hdep k' h d hd with h | h
        · exact .inl (List.mem_append_left _ h)
        · rcases mem_dropLast_or h hne with h | h
          · exact .inr (List.mem_append_left _ h)
          · left; rw [h, hk]; simp
      · simp at h; subst h
        exact .inr (List.mem_append_right _ hd)
    · rw [List.length_append, List.length_append, List.length_dropLast, List.length_singleton, ← hdl]
      have : dl ≤ 1000 := by rw [hdl]; exact hdx
      omega
    · have e5 : itN H5 q = ys.length + 2 := by
        have := (hM4.mod m5 (by simpa [blkL] using Ne.symm hbq)).itN
        rw [this]; simp
      have : dl ≤ 1000 := by rw [hdl]; exact hdx
      dsimp only
      rw [e5, hN1]
      omega
  · have h0 : left = [] := List.length_eq_zero_iff.1 (by omega)
    subst h0
    refine hK ys T Hx hAc hnd fun k => ⟨hry k, fun h => ?_⟩
    induction h with
    | base h => exact (hids _ h).resolve_right (by simp)
    | step h hx hd ih => exact (hdep _ ih _ (by unfold depsOf; rw [hx]; exact hd)).resolve_right (by simp)
end
end Go.Proofs.Ytbpbgkpkkklipaa
namespace Go.Proofs.Ytbpbgkpkkklipaa
open Go.V
/-! ### What is needed, closed, listed, used -/
theorem nodup_of_len : ∀ {xs ys : List Int}, ys.Nodup → (∀ k ∈ ys, k ∈ xs) → xs.length ≤ ys.length → xs.Nodup
  | [], _, _, _, _ => List.nodup_nil
  | x :: xs, ys, hn, h, hl => by
    rw [List.nodup_cons]
    have hx : x ∉ xs := fun hx => by
      have := nodup_len hn (zs := xs) fun k hk => by
        rcases List.mem_cons.1 (h k hk) with rfl | h'
        · exact hx
        · exact h'
      rw [List.length_cons] at hl; omega
    refine ⟨hx, ?_⟩
    by_cases hy : x ∈ ys
    · refine nodup_of_len (ys := ys.erase x) (hn.erase x) (fun k hk => ?_) (by rw [List.length_erase_of_mem hy]; rw [List.length_cons] at hl; omega)
      have h1 := (hn.mem_erase_iff).1 hk
      exact (List.mem_cons.1 (h k h1.2)).resolve_left h1.1
    · refine nodup_of_len hn (fun k hk => ?_) (by rw [List.length_cons] at hl; omega)
      exact (List.mem_cons.1 (h k hk)).resolve_left (fun e => hy (e ▸ hk))
theorem ents_sm {H : Hp} : ∀ {l : List (Int × Value)} {S : List Pt}, Ents H l S → ∀ x ∈ S, PtSm x
  | [], [], _, _, h => by cases h
  | [], _ :: _, h, _, _ => h.elim
  | _ :: _, [], h, _, _ => h.elim
  | e :: l, y :: S, h, x, hx => by
    rcases List.mem_cons.1 hx with rfl | hx
    · obtain ⟨_, _, _, _, _, _, _, _, _, _, _, _, _, _, h⟩ := h.2.1
      exact h
    · exact ents_sm h.2.2 x hx
theorem StAt.sm {H : Hp} {s : Option Addr} {m : Nat} {S : List Pt} (h : StAt H s m S) : ∀ x ∈ S, PtSm x := by
  obtain ⟨b, l', _, _, _, h4⟩ := h
  exact ents_sm h4
theorem StAt.deps {H : Hp} {s : Option Addr} {m : Nat} {S : List Pt} (h : StAt H s m S) : (S.flatMap (·.deps)).length ≤ 1000 * S.length := by
  have hs := h.sm
  clear h
  induction S with
  | nil => simp
  | cons x S ih =>
    have := ih (fun y hy => hs y (List.mem_cons_of_mem _ hy))
    have h3 := (hs x (by simp)).deps
    simp only [List.flatMap_cons, List.length_append, List.length_cons]
    omega
section
variable {H : Hp} {s : Option Addr} {m : Nat} {S : List Pt} {p : Option Addr} {l cc : Nat} {ids : List Int}
def thereB (S : List Pt) (ids : List Int) : Bool := ids.all fun k => (sGet S k).isSome
theorem store_Store_Need.c {K : Option Addr → Nat → Nat → Int → Hp → Prop} (hS : StAt H s m S) (hSl : S.length ≤ 1000) (h : Sl fU H p l cc ids) (hl : l ≤ 1000000)
    (h0 : thereB S ids = false → ∀ H', Le H H' → K none 0 0 15 H') (h1 : thereB S ids = true → ∀ n p' l' c' H', Le H H' → NeedOf S ids n → Sl fU H' p' l' c' n → K p' l' c' 0 H') : store_Store_Need.C s p l cc H K := by
  apply store_Store_Need.of
  refine store_Store_has.c hS h (by omega) fun H1 l1 => bcn (fun hr => h0 hr _ l1) fun hr v hv => ?_
  have l2 := Le.upd (c := [.slice none 0 0]) hv
  have hA0 : Acc 1 H1 (upd H1 v [.slice none 0 0]) v [v] [] := Acc.start hv l2 (by rw [rd_upd_self]; rfl)
  revert l2 hA0
  generalize upd H1 v [.slice none 0 0] = H2
  intro l2 hA0
  apply store_Store_needed.of
  intro q3 hq3 q2 hq2
  have l3 := Le.upd (c := [.pointer s]) hq3
  have l4 := Le.upd (c := [.slice p l cc]) hq2
  have r3 : rd (upd (upd H2 q3 [.pointer s]) q2 [.slice p l cc]) q3 0 = some (.pointer s) := l4.rd (by rw [rd_upd_self]; rfl)
  have r2 : rd (upd (upd H2 q3 [.pointer s]) q2 [.slice p l cc]) q2 0 = some (.slice p l cc) := by rw [rd_upd_self]; rfl
  revert l3 l4 r2 r3 hq2
  generalize upd H2 q3 [.pointer s] = H3
  intro hq2
  generalize upd H3 q2 [.slice p l cc] = H4
  intro l3 l4 r3 r2
  show store_Store_needed_1.I q2 q3 H4 _ _
  refine store_Store_needed_1.c ((hA0.le l3).le l4) r2 r3 (by rintro rfl; exact hA0.there q3 (by simp) hq3) (h.le l1) hl (hS.le l1) hSl (fun ys k Hx T Kb hA hy hk => ?_) fun ys T Hx hA hn hm => ?_
  · refine hA.push (te := te_uint32) rfl (by decide) rfl (by decide) rfl rfl (by simp [te_uint32]; omega) fun T' H' hA' m' hT => hk T' H' (by simpa using hA') m' hT
  · refine alOn ?_
    have hle := hA.1
    obtain ⟨h1', h2', p5, l5, c5, rfl, h3', h4', h5'⟩ := hA
    have e5 : l5 = ys.length := by have := h4'.1; simpa using this
    have hb5 : ∀ b ∈ blkL p5, H1 b = none := fun b hb => h4'.fr b 0 (blkL_mem h4'.zero hb)
    have hys : ys.length ≤ 1000000 + 1000 * 1000 := by
      have h1 := nodup_len hn (fun k hk => ((hm k).1 hk).in)
      rw [List.length_append] at h1
      have el := h.len
      have h2 := hS.deps
      omega
    refine ldL_i h3' (slices_Sort_uint32_uint32.c h4'.sl (by omega) fun H6 zs s6 hp hw m6 => ?_)
    have hvb : v ∉ blkL p5 := fun hb => h5' v 0 0 (blkL_mem h4'.zero hb) rfl
    refine ldL_i (m6.rd hvb h3') (h1 hr zs _ _ _ H6 (l1.trans (m6.le h1' hb5)) ⟨?_, fun k => hp.mem_iff.trans (hm k)⟩ s6)
    refine List.Pairwise.imp₂ (fun a b h1 h2 => ?_) hw (hp.nodup_iff.2 hn)
    cases h : Sort.ltInt a b with
    | true => rfl
    | false => exact absurd (ltInt_anti h h1) h2
def closedB (S : List Pt) (ids : List Int) : Prop := thereB S ids = true ∧ ids.Nodup ∧ ∀ k ∈ ids, ∀ d ∈ depsOf S k, d ∈ ids
instance {S : List Pt} {ids : List Int} : Decidable (closedB S ids) := by unfold closedB; infer_instance
theorem needOf_uniq {S : List Pt} {ids n n' : List Int} (h : NeedOf S ids n) (h' : NeedOf S ids n') : n = n' :=
  sorted_lt_mem ltInt_irr (fun _ _ => ltInt_anti) ltInt_tr h.1 h'.1 fun k => (h.2 k).trans (h'.2 k).symm
theorem reach_closed {S : List Pt} {ids : List Int} (h : ∀ k ∈ ids, ∀ d ∈ depsOf S k, d ∈ ids) {k : Int} (hr : Reach S ids k) : k ∈ ids := by
  induction hr with
  | base h => exact h
  | step _ hx hd ih => exact h _ ih _ (by unfold depsOf; rw [hx]; exact hd)
theorem lt_nodup {n : List Int} (h : n.Pairwise fun a b => Sort.ltInt a b = true) : n.Nodup := h.imp fun h e => by subst e; rw [ltInt_irr] at h; cases h
theorem store_Store_Closed.c {K : Bool → Hp → Prop} (hS : StAt H s m S) (hSl : S.length ≤ 1000) (h : Sl fU H p l cc ids) (hl : l ≤ 1000000) (hK : ∀ H', Le H H' → K (decide (closedB S ids)) H') : store_Store_Closed.C s p l cc H K := by
  apply store_Store_Closed.of
  have el := h.len
  refine store_Store_Need.c hS hSl h hl (fun e H1 l1 => bcd (fun h => absurd h (by decide)) fun _ => ?_) fun e n p1 l1 c1 H1 le1 hn hs => bcT ?_
  · have : ¬ closedB S ids := fun hc => by rw [hc.1] at e; cases e
    have := hK H1 l1
    rw [decide_eq_false (by assumption)] at this; exact this
  have e1 := hs.len
  refine bcd (fun hlen => ?_) fun hlen => ?_
  · refine store_set.c (h.le le1) hl fun p2 l2 c2 H2 le2 hs2 _ _ => slices_Equal_uint32_uint32.c (hs.le le2) hs2 (by omega) ?_
    have key : (n = setL ids) ↔ closedB S ids := by
      constructor
      · intro hne
        have hnl : n.length = ids.length := by omega
        have hnd : ids.Nodup := by
          have h1 := lt_nodup hn.1
          rw [hne] at h1 hnl
          have h2 : ∀ k ∈ ids, k ∈ setL ids := fun k hk => setL_mem.2 hk
          exact nodup_of_len h1 (fun k hk => setL_mem.1 hk) (by omega)
        exact ⟨e, hnd, fun k hk d hd => by
          have h3 : Reach S ids d := (Reach.base hk).dep hd
          have := (hn.2 d).2 h3
          rw [hne] at this; exact setL_mem.1 this⟩
      · rintro ⟨_, h2, h3⟩
        exact setL_eq hn.1 fun k => (hn.2 k).trans ⟨reach_closed h3, .base⟩
    have e : decide (n = setL ids) = decide (closedB S ids) := by
      by_cases hc : closedB S ids
      · rw [decide_eq_true hc, decide_eq_true (key.2 hc)]
      · rw [decide_eq_false hc, decide_eq_false (fun h => hc (key.1 h))]
    rw [e]; exact hK _ (le1.trans le2)
  · have : ¬ closedB S ids := fun hc => by
      have h4 : n.length = ids.length := by
        have a := nodup_len (lt_nodup hn.1) (fun k hk => reach_closed hc.2.2 ((hn.2 k).1 hk))
        have b := nodup_len hc.2.1 (fun k hk => (hn.2 k).2 (.base hk))
        omega
      omega
    have := hK H1 le1
    rw [decide_eq_false (by assumption)] at this; exact this
end
end Go.Proofs.Ytbpbgkpkkklipaa
namespace Go.Proofs.Ytbpbgkpkkklipaa
open Go.V
/-! ### Rows of patches -/
def PtL (H : Hp) (p : Option Addr) (l c : Nat) (xs : List Pt) : Prop :=
  l = xs.length ∧ l ≤ c ∧ (xs = [] ∨ ∃ b o, p = some ⟨b, o, none⟩ ∧ ∀ i (h : i < xs.length), ∃ dp dl dc mp ml mc qp ql qc hp hl hc, rd H b (o + i * 5) = some (.int .u32 xs[i].id) ∧ rd H b (o + i * 5 + 1) = some (.slice dp dl dc) ∧ rd H b (o + i * 5 + 1 + 1) = some (.slice mp ml mc) ∧ rd H b (o + i * 5 + 1 + 1 + 1) = some (.slice qp ql qc) ∧ rd H b (o + i * 5 + 1 + 1 + 1 + 1) = some (.slice hp hl hc) ∧
    PtS H xs[i].id dp dl dc mp ml mc qp ql qc hp hl hc xs[i] ∧ (hl ≤ 9223372036854775807 ∧ ml ≤ 9223372036854775807 ∧ ql ≤ 9223372036854775807))
section
variable {H H' : Hp} {p : Option Addr} {l c : Nat} {xs : List Pt}
theorem PtL.le (h : PtL H p l c xs) (hl : Le H H') : PtL H' p l c xs := by
  refine ⟨h.1, h.2.1, h.2.2.imp id fun ⟨b, o, e, hh⟩ => ⟨b, o, e, fun i hi => ?_⟩⟩
  obtain ⟨dp, dl, dc, mp, ml, mc, qp, ql, qc, hp, hl', hc, h1, h2, h3, h4, h5, h6, h7⟩ := hh i hi
  exact ⟨dp, dl, dc, mp, ml, mc, qp, ql, qc, hp, hl', hc, hl.rd h1, hl.rd h2, hl.rd h3, hl.rd h4, hl.rd h5, h6.up hl, h7⟩
theorem rsP (h : PtL H p l c xs) {k : Nat} {e : Int} (he : e = (k : Int)) (hk : k < xs.length) {F : Int → Option Addr → Nat → Nat → Option Addr → Nat → Nat → Option Addr → Nat → Nat → Option Addr → Nat → Nat → Prop}
    (hF : ∀ dp dl dc mp ml mc qp ql qc hp hl hc, PtS H xs[k].id dp dl dc mp ml mc qp ql qc hp hl hc xs[k] → (hl ≤ 9223372036854775807 ∧ ml ≤ 9223372036854775807 ∧ ql ≤ 9223372036854775807) → F xs[k].id dp dl dc mp ml mc qp ql qc hp hl hc) :
    IDX e l fun k => NIL p fun b o => ldI .u32 (rd H b (o + (k * 5))) fun x => ldL (rd H b ((o + (k * 5)) + 1)) fun dp dl dc => ldL (rd H b (((o + (k * 5)) + 1) + 1)) fun mp ml mc => ldL (rd H b ((((o + (k * 5)) + 1) + 1) + 1)) fun qp ql qc => ldL (rd H b (((((o + (k * 5)) + 1) + 1) + 1) + 1)) fun hp hl hc => F x dp dl dc mp ml mc qp ql qc hp hl hc := by
  have hl := h.1
  rcases h.2.2 with h0 | ⟨b, o, rfl, hh⟩
  · subst h0; simp at hk
  · obtain ⟨dp, dl, dc, mp, ml, mc, qp, ql, qc, hp, hl', hc, h1, h2, h3, h4, h5, h6, h7⟩ := hh k hk
    exact idxN k he (by omega) (nil (ldI_i h1 (ldL_i h2 (ldL_i h3 (ldL_i h4 (ldL_i h5 (hF _ _ _ _ _ _ _ _ _ _ _ _ h6 h7)))))))
end
/-- What of a patch lies elsewhere. -/
structure PD where
  dp : Option Addr
  dl : Nat
  dc : Nat
  mp : Option Addr
  ml : Nat
  mc : Nat
  qp : Option Addr
  ql : Nat
  qc : Nat
  hp : Option Addr
  hl : Nat
  hc : Nat
def pdC (z : Pt × PD) : List Value := [.int .u32 z.1.id, .slice z.2.dp z.2.dl z.2.dc, .slice z.2.mp z.2.ml z.2.mc, .slice z.2.qp z.2.ql z.2.qc, .slice z.2.hp z.2.hl z.2.hc]
def PdS (H : Hp) (z : Pt × PD) : Prop := PtS H z.1.id z.2.dp z.2.dl z.2.dc z.2.mp z.2.ml z.2.mc z.2.qp z.2.ql z.2.qc z.2.hp z.2.hl z.2.hc z.1
/-- Patches in a row of new memory; of each, nothing lies in the row itself. -/
def PtB (A H : Hp) (p : Option Addr) (l c : Nat) (xs : List Pt) : Prop := ∃ zs : List (Pt × PD), zs.map (·.1) = xs ∧ Buf 5 A H p l c (zs.flatMap pdC) ∧ ∀ z ∈ zs, PdS (but H p) z ∧ PtSm z.1
section
variable {A H H' : Hp} {p p' : Option Addr} {l c : Nat} {xs : List Pt}
theorem but_mono (h : Le H H') : Le (but H p) (but H' p) := fun b d e => by
  unfold but at e ⊢
  split at e
  · split at e
    · cases e
    · rename_i h1; rw [if_neg h1]; exact h b d e
  · exact h b d e
theorem but_push (hm : Mod (blkL p) H H') (hp : p' = p ∨ New H p') (hz : ∀ a, p' = some a → a.spot = Option.none) : Le (but H p) (but H' p') := fun b d e => by
  have hb : H b = some d := but_le b d e
  have hbp : b ∉ blkL p := fun h => by
    unfold blkL at h
    unfold but at e
    split at h
    · simp at h; subst h; simp at e
    · cases h
  have e' := hm b hbp d hb
  unfold but
  split
  · rename_i a
    have : b ≠ a.block := fun h => by
      subst h
      rcases hp with rfl | hp
      · exact hbp (by simp [blkL])
      · have hs := hz a rfl
        have := hp a.block a.off (by obtain ⟨x, y, z⟩ := a; simp only at hs; rw [hs])
        rw [this] at hb; cases hb
    rw [if_neg this]; exact e'
  · exact e'
theorem PtB.none : PtB A H none 0 0 [] := ⟨[], rfl, Buf.none, by simp⟩
theorem PtB.le (h : PtB A H p l c xs) (hl : Le H H') : PtB A H' p l c xs := by
  obtain ⟨zs, h1, h2, h3⟩ := h
  exact ⟨zs, h1, h2.le hl, fun z hz => ⟨PtS.up (h3 z hz).1 (but_mono hl), (h3 z hz).2⟩⟩
theorem pdC_len (z : Pt × PD) : (pdC z).length = 5 := rfl
theorem PtB.len (h : PtB A H p l c xs) : l = xs.length := by
  obtain ⟨zs, rfl, h2, _⟩ := h
  have := (h2.sn pdC_len (by decide)).1
  rw [List.length_map]; exact this
theorem PtB.ptL (h : PtB A H p l c xs) : PtL H p l c xs := by
  have hl := h.len
  obtain ⟨zs, rfl, h2, h3⟩ := h
  have hs := h2.sn pdC_len (by decide)
  refine ⟨hl, hs.2.1, ?_⟩
  by_cases hn : zs = []
  · left; rw [hn]; rfl
  · right
    rcases hs.2.2 with h0 | ⟨b, o, e, hr⟩
    · exact absurd h0 hn
    refine ⟨b, o, e, fun i hi => ?_⟩
    rw [List.length_map] at hi
    have hz := h3 zs[i] (List.getElem_mem hi)
    have hx := PtS.up hz.1 but_le
    have sm := hz.2
    rw [List.getElem_map]
    refine ⟨_, _, _, _, _, _, _, _, _, _, _, _, hr i hi 0 _ rfl, hr i hi 1 _ rfl, hr i hi 2 _ rfl, hr i hi 3 _ rfl, hr i hi 4 _ rfl, hx, ?_⟩
    have e1 := hx.2.2.1.len
    have e2 := hx.2.2.2.1.len
    have e3 := hx.2.2.2.2.1
    have := sm.makes
    have := sm.drops
    have := sm.hunks
    omega
theorem Buf.butN {s : Nat} {q : Option Addr} {n k : Nat} {cells : List Value} (h : Buf s A H q n k cells) (hp : ∀ b ∈ blkL p, A b ≠ none) : Buf s A (but H p) q n k cells := by
  refine ⟨h.1, h.2.imp id fun ⟨b, r, h1, h2, h3, h4⟩ => ⟨b, r, h1, h2, ?_, h4⟩⟩
  unfold but
  split
  · rename_i a
    have : b ≠ a.block := fun e => hp a.block (by simp [blkL]) (by rw [← e]; exact h2)
    rw [if_neg this]; exact h3
  · exact h3
theorem Own.butN {id : Int} {dp mp qp hp : Option Addr} {dl dc ml mc ql qc hl hc : Nat} {x : Pt} {zs : List (BL × HD)} (h : Own A H id dp dl dc mp ml mc qp ql qc hp hl hc x zs) (hb : ∀ b ∈ blkL p, A b ≠ none) : PtS (but H p) id dp dl dc mp ml mc qp ql qc hp hl hc x := by
  obtain ⟨h1, h2, h3, h4, ⟨h5, h6, h7⟩, h8⟩ := h
  refine ⟨h1, (Buf.butN h2 hb).sl, (Buf.butN h3 hb).sl, (Buf.butN h4 hb).sl, HkH.of h5 ((Buf.butN h6 hb).sn hdC_len (by decide)) fun j j1 j2 => ⟨(h7 j j1 j2).1, ?_, ?_, ?_⟩⟩
  · exact (Buf.butN (h7 j j1 j2).2.1 hb).sl
  · exact (Buf.butN (h7 j j1 j2).2.2.1 hb).sn edC_len (by decide)
  · exact (Buf.butN (h7 j j1 j2).2.2.2 hb).sn lidC_len (by decide)
/-- One patch more, made at a time when the row was there. -/
theorem PtB.push {H2 : Hp} {id : Int} {dp mp qp hp : Option Addr} {dl dc ml mc ql qc hl hc : Nat} {x : Pt} (h : PtB A H2 p l c xs) (hA : Was A H2) (ho : PtS (but H2 p) id dp dl dc mp ml mc qp ql qc hp hl hc x) (hs : PtSm x) (hfit : l ≤ 1000000)
    {F : Option Addr → Nat → Nat → Hp → Prop} (hF : ∀ p' c' H', PtB A H' p' (l + 1) c' (xs ++ [x]) → (p' = p ∨ New H2 p') → Mod (blkL p) H2 H' → F p' (l + 1) c' H') :
    NEW H2 ([.int .u32 id, .slice dp dl dc, .slice mp ml mc, .slice qp ql qc, .slice hp hl hc]) fun b H1 => APP H1 te_api_Patch p l c (.slice (some ⟨b, 0, Option.none⟩) 1 1) F := by
  obtain ⟨zs, rfl, h2, h3⟩ := h
  have hid := ho.1
  subst hid
  refine h2.pushS (te := te_api_Patch) (new := [.int .u32 x.id, .slice dp dl dc, .slice mp ml mc, .slice qp ql qc, .slice hp hl hc]) rfl (by decide) rfl (by decide) rfl rfl (by simp [te_api_Patch]; omega) (fun p' c' H' hB hp' m' => hF p' c' H' ?_ hp' m') hA
  have hz : ∀ a, p' = some a → a.spot = Option.none := fun a e => by
    rcases hB.2 with ⟨h0, _⟩ | ⟨b, r, h1, _⟩
    · rw [h0] at e; cases e
    · rw [h1] at e; cases e; rfl
  have hle := but_push m' hp' hz
  refine ⟨zs ++ [(x, ⟨dp, dl, dc, mp, ml, mc, qp, ql, qc, hp, hl, hc⟩)], by simp, by rw [List.flatMap_append]; simpa [pdC] using hB, fun z hz => ?_⟩
  rcases List.mem_append.1 hz with hz | hz
  · exact ⟨PtS.up (h3 z hz).1 hle, (h3 z hz).2⟩
  · simp at hz; subst hz
    exact ⟨PtS.up ho hle, hs⟩
end
end Go.Proofs.Ytbpbgkpkkklipaa
namespace Go.Proofs.Ytbpbgkpkkklipaa
open Go.V
/-! ### Users, lists -/
section
variable {H : Hp} {s : Option Addr} {m : Nat} {S : List Pt} {p : Option Addr} {l cc : Nat} {ids : List Int}
def usersL (S : List Pt) (ids : List Int) (k : Int) : List Int := (setL ids).filter fun y => decide (k ∈ depsOf S y)
theorem store_Store_Users.c {k : Int} {K : Option Addr → Nat → Nat → Hp → Prop} (hS : StAt H s m S) (h : Sl fU H p l cc ids) (hl : l ≤ 1000000) (hK : ∀ p' l' c' H', Le H H' → Sl fU H' p' l' c' (usersL S ids k) → K p' l' c' H') : store_Store_Users.C s p l cc k H K := by
  apply store_Store_Users.of
  intro b1 hb1 b2 hb2
  have l1 := Le.upd (c := [.pointer s]) hb1
  have l2 := Le.upd (c := [.int .u32 k]) hb2
  have r1 : rd (upd (upd H b1 [.pointer s]) b2 [.int .u32 k]) b1 0 = some (.pointer s) := l2.rd (by rw [rd_upd_self]; rfl)
  have r2 : rd (upd (upd H b1 [.pointer s]) b2 [.int .u32 k]) b2 0 = some (.int .u32 k) := by rw [rd_upd_self]; rfl
  have l12 := l1.trans l2
  revert l12 r1 r2
  generalize upd (upd H b1 [.pointer s]) b2 [.int .u32 k] = H2
  intro r1 r2 l12
  clear hb2 l1 l2 hb1
  have el := h.len
  refine store_set.c (h.le l12) hl fun p3 l3 c3 H3 le3 s3 hn3 ho3 => ?_
  have e3 := s3.len
  have hlen : (setL ids).length ≤ ids.length := nodup_len (lt_nodup (setL_pw ids)) fun k hk => setL_mem.1 hk
  have hz : ∀ b ∈ blkL p3, H2 b = none := fun b hb => by
    rcases ho3 with rfl | ⟨b', o', rfl⟩
    · cases hb
    · simp [blkL] at hb; subst hb; exact hn3 _ _ rfl
  refine slices_DeleteFunc_uint32_uint32.c (q := fun y => !decide (k ∈ depsOf S y)) s3 (by omega) ho3 (fun Hx y _ G mx hk => ?_) fun l4 H4 s4 m4 => ?_
  · show store_Store_Users_1.C y b1 b2 Hx G
    apply store_Store_Users_1.of
    have lx : Le H2 Hx := mx.le le3 hz
    have hSx := (hS.le l12).le lx
    obtain ⟨b, l', rfl, h2, h3, h4⟩ := hSx
    refine ldP_i (lx.rd r1) (nil ⟨_, h2, ldI_i (lx.rd r2) (lkpQ h3 h4 fun dp dl dc _ _ _ _ _ _ _ _ _ hx hsx => ⟨lx.rd r2, ?_⟩)⟩)
    have := hx.2.1.len
    have := hsx.deps
    exact slices_Contains_uint32_uint32.c hx.2.1 (by omega) (hk Hx (Le.refl _))
  · have e : ((setL ids).filter fun y => !(!decide (k ∈ depsOf S y))) = usersL S ids k := by unfold usersL; congr 1; funext y; rw [Bool.not_not]
    rw [e] at s4
    exact hK _ _ _ H4 (l12.trans (m4.le le3 hz)) s4
def listS (S : List Pt) (ids : List Int) : List Pt := (setL ids).map fun k => (sGet S k).getD xz
theorem store_Store_List.c {K : Option Addr → Nat → Nat → Int → Hp → Prop} (hS : StAt H s m S) (h : Sl fU H p l cc ids) (hl : l ≤ 1000000) (h0 : thereB S ids = false → ∀ H', Le H H' → K none 0 0 15 H')
    (h1 : thereB S ids = true → ∀ p' l' c' H', Le H H' → PtB H H' p' l' c' (listS S ids) → K p' l' c' 0 H') : store_Store_List.C s p l cc H K := by
  apply store_Store_List.of
  have el := h.len
  refine store_Store_has.c hS h (by omega) fun H1 l1 => bcn (fun hr => h0 hr _ l1) fun hr => ?_
  refine store_set.c (h.le l1) hl fun p2 l2 c2 H2 le2 s2 hn2 ho2 => ?_
  have e2 := s2.len
  have hlen : (setL ids).length ≤ ids.length := nodup_len (lt_nodup (setL_pw ids)) fun k hk => setL_mem.1 hk
  have l12 := l1.trans le2
  refine ⟨fun p l c t Hx => ∃ i : Nat, t = (i : Nat) ∧ i ≤ l2 ∧ Le H2 Hx ∧ PtB H2 Hx p l c ((listS S ids).take i) ∧ l = i, fun _ _ _ t _ => ((l2 : Int) - t).toNat, ⟨0, rfl, Nat.zero_le _, Le.refl _, PtB.none, rfl⟩, ?_⟩
  rintro p l c t Hx ⟨i, rfl, gi, lx, hP, hli⟩
  refine bcd (fun hlt => ?_) fun hlt => ?_
  · have hi : i < (setL ids).length := by omega
    refine slI (g := fun x => x) (s2.le lx) (fun _ => rfl) (by omega) (by omega) fun _ => ?_
    simp only [Int.toNat_natCast]
    have hSx := (hS.le l12).le lx
    obtain ⟨b, l', rfl, h2, h3, h4⟩ := hSx
    refine nil ⟨_, h2, lkpQ h3 h4 fun dp dl dc mp ml mc qp ql qc hp hl hc hx hsx => ?_⟩
    refine patch_Copy.c hx hsx fun p1 c1 p2 c2 p3 c3 p4 c4 zs H3 l3 ho => ?_
    have hlx : l ≤ 1000000 := by omega
    refine PtB.push (x := (sGet S (setL ids)[i]).getD xz) (hP.le l3) (lx.trans l3).was (ho.butN fun b hb => ?_) hsx hlx fun p5 c5 H5 hP5 hp5 m5 => chk (by omega) ⟨⟨i + 1, rfl, by omega, ?_, ?_, by omega⟩, by omega⟩
    · obtain ⟨zs', _, hB, _⟩ := hP
      exact hB.there (blkL_mem hB.zero hb)
    · refine m5.le (lx.trans l3) fun b hb => ?_
      obtain ⟨zs', _, hB, _⟩ := hP
      exact hB.fr b 0 (blkL_mem hB.zero hb)
    · have hi' : i < (listS S ids).length := by unfold listS; rw [List.length_map]; exact hi
      rw [List.take_succ_eq_append_getElem hi']
      have e : (listS S ids)[i] = (sGet S (setL ids)[i]).getD xz := List.getElem_map ..
      rw [e]; exact hP5
  · have e : (listS S ids).take i = listS S ids := List.take_of_length_le (by unfold listS; rw [List.length_map]; omega)
    rw [e] at hP
    refine h1 hr _ _ _ Hx (l12.trans lx) ?_
    obtain ⟨zs, e1, hB, hz⟩ := hP
    exact ⟨zs, e1, bBack hB l12, hz⟩
end
end Go.Proofs.Ytbpbgkpkkklipaa
namespace Go.Proofs.Ytbpbgkpkkklipaa
open Go.V
/-! ### What is known -/
def xp : Pt := ⟨1, [], [], [], []⟩
def xq : Pt := ⟨2, [1], [], [], []⟩
def xa : Pt := ⟨1, [], [[97]], [], []⟩
theorem sl1 {H : Hp} {b : Nat} {k : Int} (h : rd H b 0 = some (fU k)) : Sl fU H (some ⟨b, 0, none⟩) 1 1 [k] := ⟨rfl, Nat.le_refl _, .inr ⟨b, 0, rfl, fun i hi => by
  simp at hi; subst hi; exact h⟩⟩
theorem sl2 {H : Hp} {b : Nat} {k j : Int} (h : rd H b 0 = some (fU k)) (h' : rd H b 1 = some (fU j)) : Sl fU H (some ⟨b, 0, none⟩) 2 2 [k, j] := ⟨rfl, Nat.le_refl _, .inr ⟨b, 0, rfl, fun i hi => by
  rcases i with _ | i
  · exact h
  · have : i = 0 := by simp at hi; omega
    subst this; exact h'⟩⟩
theorem slV1 {H : Hp} {b : Nat} {k : BL} (h : rd H b 0 = some (sv k)) : Sl sv H (some ⟨b, 0, none⟩) 1 1 [k] := ⟨rfl, Nat.le_refl _, .inr ⟨b, 0, rfl, fun i hi => by
  simp at hi; subst hi; exact h⟩⟩
theorem smP {id : Int} {ds : List Int} {ms : List BL} (h : ds.length ≤ 1000) (hm : ms.length ≤ 1000) (ht : ∀ s ∈ ms, s.length ≤ 1000000) : PtSm ⟨id, ds, ms, [], []⟩ := ⟨h, hm, by simp, by simp, ht, by simp, by simp⟩
theorem ptP {H : Hp} {id : Int} {ds : List Int} {ms : List BL} {dp mp : Option Addr} {dl dc ml mc : Nat} (h : Sl fU H dp dl dc ds) (hm : Sl sv H mp ml mc ms) : PtS H id dp dl dc mp ml mc none 0 0 none 0 0 ⟨id, ds, ms, [], []⟩ := ⟨rfl, h, hm, Sl.nil, rfl, Nat.le_refl _, .inl rfl⟩
theorem D5.lr {H H' : Hp} {b : Nat} {id : Int} {dp mp qp hp : Option Addr} {dl dc ml mc ql qc hl hc : Nat} (h : D5 H b id dp dl dc mp ml mc qp ql qc hp hl hc) (hle : Lr H H') : D5 H' b id dp dl dc mp ml mc qp ql qc hp hl hc := ⟨hle _ _ _ h.1, hle _ _ _ h.2.1, hle _ _ _ h.2.2.1, hle _ _ _ h.2.2.2.1, hle _ _ _ h.2.2.2.2⟩
theorem needOf_of {S : List Pt} {ids n : List Int} (hs : n.Pairwise fun a b => Sort.ltInt a b = true) (hi : ∀ k ∈ ids, k ∈ n) (hc : ∀ k ∈ n, ∀ d ∈ depsOf S k, d ∈ n) (hr : ∀ k ∈ n, Reach S ids k) : NeedOf S ids n := by
  refine ⟨hs, fun k => ⟨hr k, fun h => ?_⟩⟩
  induction h with
  | base h => exact hi _ h
  | step _ hx hd ih => exact hc _ ih _ (by unfold depsOf; rw [hx]; exact hd)
theorem need2 : NeedOf [xp, xq] [2] [1, 2] := by
  have h2 : Reach [xp, xq] [2] 2 := .base (by decide)
  refine needOf_of (by decide) (by decide) (by decide) fun k hk => ?_
  simp at hk
  rcases hk with rfl | rfl
  · exact h2.dep (by decide)
  · exact h2
theorem cl1 : closedB [xp, xq] [2, 1] := by decide
theorem cl2 : ¬ closedB [xp, xq] [2] := by decide
section
variable {H : Hp} {K : Bool → Hp → Prop}
theorem centolaw17_known.c (hK : ∀ H', Le H H' → K true H') : centolaw17_known.C H K := by
  apply centolaw17_known.of
  refine store_New.c fun m b H1 hm hb l1 hS => ?_
  generalize hs : (some (⟨b, 0, none⟩ : Addr)) = s at hS ⊢
  intro b3 h3
  have l2 := Le.upd (c := [.int .u32 (1 : Int)]) h3
  have r3 : rd (upd H1 b3 [.int .u32 (1 : Int)]) b3 0 = some (fU 1) := by rw [rd_upd_self]; rfl
  revert l2 r3
  generalize upd H1 b3 [.int .u32 (1 : Int)] = H2
  intro l2 r3 b5 h5
  have l3 := Le.upd (c := [.int .u32 (0 : Int), .slice none 0 0, .slice none 0 0, .slice none 0 0, .slice none 0 0]) h5
  have d5 := D5.new (H := H2) (b := b5) (id := (0 : Int)) (dp := none) (dl := 0) (dc := 0) (mp := none) (ml := 0) (mc := 0) (qp := none) (ql := 0) (qc := 0) (hp := none) (hl := 0) (hc := 0)
  revert l3 d5
  generalize upd H2 b5 [.int .u32 (0 : Int), .slice none 0 0, .slice none 0 0, .slice none 0 0, .slice none 0 0] = H3
  intro l3 d5 b7 h7
  have l4 := Le.upd (c := [.int .u32 (0 : Int), .slice none 0 0, .slice none 0 0, .slice none 0 0, .slice none 0 0]) h7
  have d7 := D5.new (H := H3) (b := b7) (id := (0 : Int)) (dp := none) (dl := 0) (dc := 0) (mp := none) (ml := 0) (mc := 0) (qp := none) (ql := 0) (qc := 0) (hp := none) (hl := 0) (hc := 0)
  have hne : b5 ≠ b7 := by rintro rfl; exact d5.there h7
  replace d5 := d5.le l4
  revert l4 d7 d5
  generalize upd H3 b7 [.int .u32 (0 : Int), .slice none 0 0, .slice none 0 0, .slice none 0 0, .slice none 0 0] = H4
  intro l4 d7 d5
  refine put5 d5 fun H5 e5 m5 _ => put5 (d7.mod m5 (by simpa using Ne.symm hne)) fun H6 e7 m6 _ => ?_
  replace e5 := e5.mod m6 (by simpa using hne)
  have l6 : Le H2 H6 := m6.le (m5.le (l3.trans l4) (by simpa using h5)) (by simpa using none_of_le l3 h7)
  have hS6 := (hS.le l2).le l6
  refine bcd (fun e => absurd e (by rw [← hs]; simp)) fun _ => ?_
  have f3 := l6.rd r3
  refine D5.get e7 (store_Store_Add.c hS6 (x := xq) (ptP (sl1 f3) Sl.nil) (smP (by decide) (by decide) (by simp)) fun H7 hS7 m7 => ?_)
  rw [show sAdd [] xq = (17, []) by decide] at hS7 ⊢
  refine bcd (fun h => absurd rfl h) fun _ => ?_
  have r7 := hS6.lr m7
  refine D5.get (e5.lr r7) (store_Store_Add.c hS7 (x := xp) (ptP Sl.nil Sl.nil) (smP (by decide) (by decide) (by simp)) fun H8 hS8 m8 => ?_)
  rw [show sAdd [] xp = (0, [xp]) by decide] at hS8 ⊢
  refine bcd (fun h => absurd rfl h) fun _ => ?_
  have r8 := r7.trans (hS7.lr m8)
  refine D5.get (e7.lr r8) (store_Store_Add.c hS8 (x := xq) (ptP (sl1 (r8 _ _ _ f3)) Sl.nil) (smP (by decide) (by decide) (by simp)) fun H9 hS9 m9 => ?_)
  rw [show sAdd [xp] xq = (0, [xp, xq]) by decide] at hS9 ⊢
  refine bcd (fun h => absurd rfl h) fun _ b10 h10 => ?_
  have l10 := Le.upd (c := [.string (bs [97])]) h10
  have r10 : rd (upd H9 b10 [.string (bs [97])]) b10 0 = some (sv [97]) := by rw [rd_upd_self]; rfl
  revert l10 r10
  generalize upd H9 b10 [.string (bs [97])] = H10
  intro l10 r10
  refine store_Store_Add.c (hS9.le l10) (x := xa) (ptP Sl.nil (slV1 r10)) (smP (by decide) (by decide) (by decide)) fun H11 hS11 m11 => ?_
  rw [show sAdd [xp, xq] xa = (16, [xp, xq]) by decide] at hS11 ⊢
  refine bcd (fun h => absurd rfl h) fun _ => ?_
  refine store_Store_Add.c hS11 (x := xz) xz_pt xz_sm fun H12 hS12 m12 => ?_
  rw [show sAdd [xp, xq] xz = (10, [xp, xq]) by decide] at hS12 ⊢
  refine bcd (fun h => absurd rfl h) fun _ => ?_
  have mm : Mod [m] H6 H12 := (((m7.trans m8).trans (m9.andLe l10)).trans m11).trans m12
  have hle : ∀ {H'}, Le H12 H' → Le H H' := fun h => (mm.le ((l1.trans l2).trans l6) (by simpa using hm)).trans h
  clear mm m12 m11 m9 m8 m7 hS11 hS9 hS8 hS7 r8 r7 l10 r10 f3 hS6 l6 e7 e5 m6 m5 d7 d5 l4 l3 l2 r3
  unfold centolaw17_known.k1
  intro b13 h13
  have l13 := Le.upd (c := [.int .u32 (2 : Int)]) h13
  have r13 : rd (upd H12 b13 [.int .u32 (2 : Int)]) b13 0 = some (fU 2) := by rw [rd_upd_self]; rfl
  revert l13 r13
  generalize upd H12 b13 [.int .u32 (2 : Int)] = H13
  intro l13 r13
  refine store_Store_Need.c (hS12.le l13) (by decide) (sl1 r13) (by decide) (fun h => absurd h (by decide)) fun _ n1 p14 n14 c14 H14 l14 hn1 hs1 b15 h15 => ?_
  rw [needOf_uniq hn1 need2] at hs1
  have en := hs1.len
  have l15 := Le.upd (c := [.int .u32 (3 : Int)]) h15
  have r15 : rd (upd H14 b15 [.int .u32 (3 : Int)]) b15 0 = some (fU 3) := by rw [rd_upd_self]; rfl
  revert l15 r15
  generalize upd H14 b15 [.int .u32 (3 : Int)] = H15
  intro l15 r15
  have k15 := (l13.trans l14).trans l15
  refine store_Store_Need.c (hS12.le k15) (by decide) (sl1 r15) (by decide) (fun _ H16 l16 b17 h17 => ?_) (fun h => absurd h (by decide))
  have l17 := Le.upd (c := [.int .u32 (2 : Int)]) h17
  have r17 : rd (upd H16 b17 [.int .u32 (2 : Int)]) b17 0 = some (fU 2) := by rw [rd_upd_self]; rfl
  revert l17 r17
  generalize upd H16 b17 [.int .u32 (2 : Int)] = H17
  intro l17 r17
  have k17 := (k15.trans l16).trans l17
  refine store_Store_List.c (hS12.le k17) (sl1 r17) (by decide) (fun h => absurd h (by decide)) fun _ p18 n18 c18 H18 l18 hs18 b19 h19 => ?_
  have en18 : n18 = 1 := hs18.len
  have l19 := Le.upd (c := [.int .u32 (1 : Int), .int .u32 (2 : Int)]) h19
  have r19 : rd (upd H18 b19 [.int .u32 (1 : Int), .int .u32 (2 : Int)]) b19 0 = some (fU 1) := by rw [rd_upd_self]; rfl
  have r19' : rd (upd H18 b19 [.int .u32 (1 : Int), .int .u32 (2 : Int)]) b19 1 = some (fU 2) := by rw [rd_upd_self]; rfl
  revert l19 r19 r19'
  generalize upd H18 b19 [.int .u32 (1 : Int), .int .u32 (2 : Int)] = H19
  intro l19 r19 r19'
  have k19 := (k17.trans l18).trans l19
  refine store_Store_Users.c (hS12.le k19) (sl2 r19 r19') (by decide) fun p20 n20 c20 H20 l20 hs20 => ?_
  rw [show usersL [xp, xq] [1, 2] 1 = [2] by decide] at hs20
  have en20 := hs20.len
  have k20 := k19.trans l20
  refine store_Store_Get.c (hS12.le k20) (fun h => absurd h (by decide)) fun x p1 c1 p2 c2 p3 c3 p4 c4 H21 d1 d2 d3 d4 zs A hx l21 _ ho _ => ?_
  have hxq : x = xq := by
    have : sGet [xp, xq] 2 = some xq := by decide
    rw [this] at hx; exact (Option.some.inj hx).symm
  subst hxq
  refine D5.mk fun o H22 _ dd l22 => ?_
  have k22 := (k20.trans l21).trans l22
  subst en en18 en20
  refine bcd (fun _ => ?_) fun h => absurd rfl h
  refine bcd (fun _ => ?_) fun h => absurd rfl h
  refine bcd (fun _ => ?_) fun h => absurd rfl h
  refine bcd (fun _ => ?_) fun h => absurd rfl h
  refine bcd (fun _ => ?_) fun h => absurd rfl h
  refine bcd (fun _ => ?_) fun h => absurd rfl h
  refine slI (g := fun x => x) ((hs20.le l21).le l22) (fun _ => rfl) (by decide) (by decide) fun _ => ?_
  refine bcd (fun _ => ?_) fun h => absurd rfl h
  refine bcT (ldI_i dd.1 (bcd (fun _ => ?_) fun h => absurd rfl h))
  refine store_Store_IDs.c (hS12.le k22) (by decide) fun p23 n23 c23 H23 l23 hs23 _ _ => ?_
  have en23 : n23 = 2 := hs23.len
  subst en23
  refine bcd (fun _ b24 h24 => ?_) fun h => absurd rfl h
  have l24 := Le.upd (c := [.int .u32 (2 : Int), .int .u32 (1 : Int)]) h24
  have r24 : rd (upd H23 b24 [.int .u32 (2 : Int), .int .u32 (1 : Int)]) b24 0 = some (fU 2) := by rw [rd_upd_self]; rfl
  have r24' : rd (upd H23 b24 [.int .u32 (2 : Int), .int .u32 (1 : Int)]) b24 1 = some (fU 1) := by rw [rd_upd_self]; rfl
  revert l24 r24 r24'
  generalize upd H23 b24 [.int .u32 (2 : Int), .int .u32 (1 : Int)] = H24
  intro l24 r24 r24'
  have k24 := (k22.trans l23).trans l24
  refine store_Store_Closed.c (hS12.le k24) (by decide) (sl2 r24 r24') (by decide) fun H25 l25 => ?_
  have e25 : ∀ i : Decidable (closedB [xp, xq] [2, 1]), @decide _ i = true := fun i => @decide_eq_true _ i cl1
  rw [e25]
  refine bcT fun b26 h26 => ?_
  have l26 := Le.upd (c := [.int .u32 (2 : Int)]) h26
  have r26 : rd (upd H25 b26 [.int .u32 (2 : Int)]) b26 0 = some (fU 2) := by rw [rd_upd_self]; rfl
  revert l26 r26
  generalize upd H25 b26 [.int .u32 (2 : Int)] = H26
  intro l26 r26
  have k26 := (k24.trans l25).trans l26
  refine store_Store_Closed.c (hS12.le k26) (by decide) (sl1 r26) (by decide) fun H27 l27 => ?_
  have e27 : ∀ i : Decidable (closedB [xp, xq] [2]), @decide _ i = false := fun i => @decide_eq_false _ i cl2
  rw [e27]
  exact hK _ (hle (k26.trans l27))
end
end Go.Proofs.Ytbpbgkpkkklipaa
namespace Go.Proofs.Ytbpbgkpkkklipaa
open Go.V
/-! ### Patches with numbers alone -/
def pI (k : Int) : Pt := ⟨k, [], [], [], []⟩
theorem pI_is {k : Int} (h : k ≠ 0) : isB (pI k) = true := by
  have e : isB (pI k) = (decide (¬ k = 0) && true) := rfl
  rw [e, decide_eq_true h]; rfl
theorem pI_sm {k : Int} : PtSm (pI k) := smP (by decide) (by decide) (by simp)
theorem pI_pt {H : Hp} {k : Int} : PtS H k none 0 0 none 0 0 none 0 0 none 0 0 (pI k) := ptP Sl.nil Sl.nil
def fullS (n : Nat) : List Pt := (List.range n).map fun j => pI (3 * (j + 1 : Nat))
theorem fullS_len (n : Nat) : (fullS n).length = n := by simp [fullS]
theorem fullS_succ (n : Nat) : fullS (n + 1) = fullS n ++ [pI (3 * (n + 1 : Nat))] := by simp [fullS, List.range_succ]
theorem fullS_none {n : Nat} {k : Int} (h : ∀ j : Nat, j < n → k ≠ 3 * (j + 1 : Nat)) : sGet (fullS n) k = none := sGet_none.2 fun x hx e => by
  obtain ⟨j, hj, rfl⟩ := List.mem_map.1 hx
  exact h j (List.mem_range.1 hj) e.symm
theorem fullS_some {n j : Nat} (h : j < n) : sGet (fullS n) (3 * (j + 1 : Nat)) = some (pI (3 * (j + 1 : Nat))) := by
  induction n with
  | zero => omega
  | succ n ih =>
    rw [fullS_succ, sGet_snoc]
    by_cases hj : j = n
    · subst hj
      rw [fullS_none fun i hi e => by omega]
      simp [pI]
    · rw [ih (by omega)]
theorem sIds_len {S : List Pt} (hn : (S.map (·.id)).Nodup) : (sIds S).length = S.length := by
  have h1 := lt_nodup (setL_pw (S.map (·.id)))
  have a := nodup_len h1 (zs := S.map (·.id)) fun k hk => setL_mem.1 hk
  have b := nodup_len hn (zs := setL (S.map (·.id))) fun k hk => setL_mem.2 hk
  rw [List.length_map] at a b
  unfold sIds
  omega
end Go.Proofs.Ytbpbgkpkkklipaa
namespace Go.Proofs.Ytbpbgkpkkklipaa
open Go.V
/-! ### Stores as they come to be -/
structure StOk (S : List Pt) : Prop where
  len : S.length ≤ 60
  dep : ∀ x ∈ S, ∀ d ∈ x.deps, (sGet S d).isSome = true
theorem StOk.nil : StOk [] := ⟨by decide, by simp⟩
theorem isSome_snoc {S : List Pt} {x : Pt} {d : Int} (h : (sGet S d).isSome = true) : (sGet (S ++ [x]) d).isSome = true := by
  rw [sGet_snoc]
  cases hg : sGet S d with
  | none => rw [hg] at h; cases h
  | some y => rfl
theorem sAdd_cases (S : List Pt) (x : Pt) : (sAdd S x).2 = S ∨ (sAdd S x = (0, S ++ [x]) ∧ isB x = true ∧ sGet S x.id = none ∧ (∀ d ∈ x.deps, (sGet S d).isSome = true) ∧ S.length < 60) := by
  unfold sAdd
  by_cases h1 : isB x = false
  · left; rw [if_pos h1]
  rw [if_neg h1]
  cases hg : sGet S x.id with
  | some y => left; rfl
  | none =>
    simp only
    by_cases h2 : (x.deps.all fun d => (sGet S d).isSome) = false
    · left; rw [if_pos h2]
    rw [if_neg h2]
    by_cases h3 : 60 ≤ S.length
    · left; rw [if_pos h3]
    rw [if_neg h3]
    right
    refine ⟨rfl, by simpa using h1, trivial, ?_, by omega⟩
    have : (x.deps.all fun d => (sGet S d).isSome) = true := by
      cases h : (x.deps.all fun d => (sGet S d).isSome) with
      | true => rfl
      | false => exact absurd h h2
    exact List.all_eq_true.1 this
theorem StOk.add {S : List Pt} (h : StOk S) (x : Pt) : StOk (sAdd S x).2 := by
  rcases sAdd_cases S x with e | ⟨e, _, _, h2, h3⟩
  · rw [e]; exact h
  · rw [e]
    refine ⟨by rw [List.length_append, List.length_singleton]; omega, fun y hy d hd => ?_⟩
    rcases List.mem_append.1 hy with hy | hy
    · exact isSome_snoc (h.dep y hy d hd)
    · simp at hy; subst hy
      exact isSome_snoc (h2 d hd)
theorem StOk.reach {S : List Pt} (h : StOk S) {ids : List Int} (hi : thereB S ids = true) {k : Int} (hr : Reach S ids k) : (sGet S k).isSome = true := by
  cases hr with
  | base hk => exact List.all_eq_true.1 hi k hk
  | step _ hx hd => exact h.dep _ (sGet_some hx).1 _ hd
theorem StOk.need {S : List Pt} (h : StOk S) {ids n : List Int} (hi : thereB S ids = true) (hn : NeedOf S ids n) : closedB S n := by
  refine ⟨List.all_eq_true.2 fun k hk => h.reach hi ((hn.2 k).1 hk), lt_nodup hn.1, fun k hk d hd => (hn.2 d).2 (((hn.2 k).1 hk).dep hd)⟩
theorem StOk.all {S : List Pt} (h : StOk S) : closedB S (sIds S) := by
  have hm : ∀ k, k ∈ sIds S ↔ (sGet S k).isSome = true := fun k => by
    rw [sGet_is, decide_eq_true_eq]; exact setL_mem
  refine ⟨List.all_eq_true.2 fun k hk => (hm k).1 hk, lt_nodup (setL_pw _), fun k hk d hd => ?_⟩
  rw [hm]
  unfold depsOf at hd
  cases hg : sGet S k with
  | none => rw [hg] at hd; cases hd
  | some x => rw [hg] at hd; exact h.dep x (sGet_some hg).1 d hd
/-- What is needed, but wasn't asked for, has a user. -/
theorem needs_user {S : List Pt} {ids n : List Int} (hn : NeedOf S ids n) {d : Int} (hd : d ∈ n) (hi : d ∉ ids) : 0 < (usersL S n d).length := by
  have hr := (hn.2 d).1 hd
  cases hr with
  | base h => exact absurd h hi
  | step h hx hdx =>
    rename_i k x
    have hk := (hn.2 k).2 h
    refine List.length_pos_of_mem (a := k) ?_
    unfold usersL
    rw [List.mem_filter]
    refine ⟨setL_mem.2 hk, ?_⟩
    rw [decide_eq_true_eq]
    unfold depsOf
    rw [hx]; exact hdx
section
variable {H : Hp} {p : Option Addr} {l cc : Nat} {ids : List Int}
theorem centoref12_Has.c {v : Int} {K : Bool → Hp → Prop} (h : Sl fU H p l cc ids) (hl : l ≤ 1000000000) (hK : K (decide (v ∈ ids)) H) : centoref12_Has.C p l cc v H K := by
  apply centoref12_Has.of
  have el := h.len
  refine ⟨fun t Hx => ∃ i : Nat, t = (i : Nat) ∧ i ≤ l ∧ Hx = H ∧ v ∉ ids.take i, fun t _ => ((l : Int) - t).toNat, ⟨0, rfl, Nat.zero_le _, rfl, by simp⟩, ?_⟩
  rintro t Hx ⟨i, rfl, gi, rfl, hn⟩
  refine bcd (fun hlt => ?_) fun hlt => ?_
  · have hi : i < ids.length := by omega
    refine slI (g := fun x => x) h (fun _ => rfl) (by omega) (by omega) fun _ => ?_
    simp only [Int.toNat_natCast]
    refine bcd (fun e => ?_) fun e => ?_
    · rw [decide_eq_true (by rw [← e]; exact List.getElem_mem hi)] at hK; exact hK
    · refine chk (by omega) ⟨⟨i + 1, by omega, by omega, by trivial, ?_⟩, by first | omega | (dsimp only; omega)⟩
      rw [List.take_succ_eq_append_getElem hi, List.mem_append, List.mem_singleton]
      exact fun h' => h'.elim hn fun h' => e h'.symm
  · rw [List.take_of_length_le (by omega)] at hn
    rw [decide_eq_false hn] at hK; exact hK
end
end Go.Proofs.Ytbpbgkpkkklipaa
namespace Go.Proofs.Ytbpbgkpkkklipaa
open Go.V
/-! ### Few -/
def fewH (h : Hk) : Bool := decide (h.adds.length ≤ 50) && (decide (h.edges.length ≤ 90) && (decide (h.kills.length ≤ 50) && (decide (h.path.length ≤ 40) && h.adds.all fun s => decide (s.length ≤ 100))))
def fewB (x : Pt) : Bool := x.hunks.all fewH && ((x.makes.all fun s => decide (s.length ≤ 40)) && ((x.drops.all fun s => decide (s.length ≤ 40)) && (decide (x.hunks.length ≤ 8) && (decide (x.deps.length ≤ 70) && (decide (x.makes.length ≤ 10) && decide (x.drops.length ≤ 10))))))
theorem fewB_sm {x : Pt} (h : fewB x = true) : PtSm x := by
  simp only [fewB, fewH, Bool.and_eq_true, List.all_eq_true, decide_eq_true_eq] at h
  obtain ⟨h1, h2, h3, h4, h5, h6, h7⟩ := h
  refine ⟨by omega, by omega, by omega, by omega, fun s hs => Nat.le_trans (h2 s hs) (by decide), fun s hs => Nat.le_trans (h3 s hs) (by decide), fun g hg => ?_⟩
  obtain ⟨g1, g2, g3, g4, g5⟩ := h1 g hg
  exact ⟨by omega, by omega, by omega, by omega, fun s hs => Nat.le_trans (g5 s hs) (by decide)⟩
section
variable {H : Hp} {id : Int} {dp mp qp hp : Option Addr} {dl dc ml mc ql qc hl hc : Nat} {x : Pt}
theorem mkB_sz (s : BL) : (mkB s).size = s.length := mkB_size s
theorem centolaw17_few.c {K : Bool → Hp → Prop} (h : PtS H id dp dl dc mp ml mc qp ql qc hp hl hc x) (sl : hl ≤ 9223372036854775807 ∧ ml ≤ 9223372036854775807 ∧ ql ≤ 9223372036854775807) (hK : ∀ H', Le H H' → K (fewB x) H') : centolaw17_few.C id dp dl dc mp ml mc qp ql qc hp hl hc H K := by
  apply centolaw17_few.of
  intro b hb
  have l1 := Le.upd (c := [.int .u32 id, .slice dp dl dc, .slice mp ml mc, .slice qp ql qc, .slice hp hl hc]) hb
  have d := D5.new (H := H) (b := b) (id := id) (dp := dp) (dl := dl) (dc := dc) (mp := mp) (ml := ml) (mc := mc) (qp := qp) (ql := ql) (qc := qc) (hp := hp) (hl := hl) (hc := hc)
  revert l1 d
  generalize upd H b [.int .u32 id, .slice dp dl dc, .slice mp ml mc, .slice qp ql qc, .slice hp hl hc] = H1
  intro l1 d
  obtain ⟨rfl, hd, hm, hq, hh⟩ := h
  have eh := hh.1
  have ed := hd.len
  have em := hm.len
  have eq := hq.len
  have hh1 := HkH_le hh l1
  unfold fewB at hK
  refine ⟨fun t Hx => ∃ i : Nat, t = (i : Nat) ∧ i ≤ hl ∧ Le H1 Hx ∧ (x.hunks.take i).all fewH = true, fun t _ => ((hl : Int) - t).toNat, ⟨0, rfl, Nat.zero_le _, Le.refl _, rfl⟩, ?_⟩
  rintro t Hx ⟨i, rfl, gi, lx, hp1⟩
  have dx := d.le lx
  refine ldL_i dx.2.2.2.2 (bcd (fun hlt => ldL_i dx.2.2.2.2 ?_) fun hlt => ?_)
  · have hi : i < x.hunks.length := by omega
    have bad : ∀ {Hy}, Le H1 Hy → fewH x.hunks[i] = false → K false Hy := fun {Hy} ly hb => by
      have := hK _ (l1.trans ly)
      rw [all_bad hi hb] at this; exact this
    refine rsH2 hh1 lx rfl hi fun ap al ac ep el ec kp kl kc s1 s2 s3 => D4.mk fun q H2 hq2 dq l2 => ?_
    have e1 := s1.len
    have e2 := s2.len
    have e3 := s3.len
    have lx2 := lx.trans l2
    refine ldL_i dq.2.1 (bcd (fun g => bad lx2 ?_) fun g1 => ldL_i dq.2.2.1 (bcd (fun g => bad lx2 ?_) fun g2 => ldL_i dq.2.2.2 (bcd (fun g => bad lx2 ?_) fun g3 => ldS_i dq.1 ?_)))
    · unfold fewH; rw [decide_eq_false (by omega)]; rfl
    · unfold fewH; rw [decide_eq_false (by omega : ¬ x.hunks[i].edges.length ≤ 90)]; simp
    · unfold fewH; rw [decide_eq_false (by omega : ¬ x.hunks[i].kills.length ≤ 50)]; simp
    rw [mkB_sz]
    refine bcd (fun g => bad lx2 ?_) fun g4 => ?_
    · unfold fewH; rw [decide_eq_false (by omega : ¬ x.hunks[i].path.length ≤ 40)]; simp
    unfold centolaw17_few.k1
    refine ⟨fun t Hy => ∃ j : Nat, t = (j : Nat) ∧ j ≤ al ∧ Le H2 Hy ∧ ((x.hunks[i].adds.take j).all fun s => decide (s.length ≤ 100)) = true, fun t _ => ((al : Int) - t).toNat, ⟨0, rfl, Nat.zero_le _, Le.refl _, rfl⟩, ?_⟩
    rintro t Hy ⟨j, rfl, gj, ly, hp2⟩
    have dy := dq.le ly
    refine ldL_i dy.2.1 (bcd (fun hlt => ldL_i dy.2.1 ?_) fun hlt => ?_)
    · have hj : j < x.hunks[i].adds.length := by omega
      refine rsT (s1.le (lx2.trans ly)) rfl hj ?_
      rw [mkB_sz]
      refine bcd (fun g => bad (lx2.trans ly) ?_) fun g => chk (by omega) ⟨⟨j + 1, by omega, by omega, ly, all_next hj hp2 (by rw [decide_eq_true_eq]; omega)⟩, by first | omega | (dsimp only; omega)⟩
      unfold fewH
      rw [all_bad (f := fun s : BL => decide (s.length ≤ 100)) hj (by rw [decide_eq_false_iff_not]; omega)]; simp
    · refine chk (by omega) ⟨⟨i + 1, by omega, by omega, lx2.trans ly, all_next hi hp1 ?_⟩, by first | omega | (dsimp only; omega)⟩
      unfold fewH
      rw [all_end hp2 (by omega), decide_eq_true (by omega), decide_eq_true (by omega), decide_eq_true (by omega), decide_eq_true (by omega)]; rfl
  rw [all_end hp1 (by omega)] at hK
  simp only [Bool.true_and] at hK
  refine ⟨fun t Hx => ∃ i : Nat, t = (i : Nat) ∧ i ≤ ml ∧ Le H1 Hx ∧ ((x.makes.take i).all fun s => decide (s.length ≤ 40)) = true, fun t _ => ((ml : Int) - t).toNat, ⟨0, rfl, Nat.zero_le _, lx, rfl⟩, ?_⟩
  clear dx hlt
  rintro t Hy ⟨j, rfl, gj, ly, hp2⟩
  have dy := d.le ly
  refine ldL_i dy.2.2.1 (bcd (fun hlt => ldL_i dy.2.2.1 ?_) fun hlt => ?_)
  · have hj : j < x.makes.length := by omega
    refine rsT (hm.le (l1.trans ly)) rfl hj ?_
    rw [mkB_sz]
    refine bcd (fun g => ?_) fun g => chk (by omega) ⟨⟨j + 1, by omega, by omega, ly, all_next hj hp2 (by rw [decide_eq_true_eq]; omega)⟩, by first | omega | (dsimp only; omega)⟩
    have := hK _ (l1.trans ly)
    rw [all_bad (f := fun s : BL => decide (s.length ≤ 40)) hj (by rw [decide_eq_false_iff_not]; omega)] at this; exact this
  rw [all_end hp2 (by omega)] at hK
  simp only [Bool.true_and] at hK
  refine ⟨fun t Hx => ∃ i : Nat, t = (i : Nat) ∧ i ≤ ql ∧ Le H1 Hx ∧ ((x.drops.take i).all fun s => decide (s.length ≤ 40)) = true, fun t _ => ((ql : Int) - t).toNat, ⟨0, rfl, Nat.zero_le _, ly, rfl⟩, ?_⟩
  clear dy hlt
  rintro t Hz ⟨k, rfl, gk, lz, hp3⟩
  have dz := d.le lz
  refine ldL_i dz.2.2.2.1 (bcd (fun hlt => ldL_i dz.2.2.2.1 ?_) fun hlt => ?_)
  · have hj : k < x.drops.length := by omega
    refine rsT (hq.le (l1.trans lz)) rfl hj ?_
    rw [mkB_sz]
    refine bcd (fun g => ?_) fun g => chk (by omega) ⟨⟨k + 1, by omega, by omega, lz, all_next hj hp3 (by rw [decide_eq_true_eq]; omega)⟩, by first | omega | (dsimp only; omega)⟩
    have := hK _ (l1.trans lz)
    rw [all_bad (f := fun s : BL => decide (s.length ≤ 40)) hj (by rw [decide_eq_false_iff_not]; omega)] at this; exact this
  rw [all_end hp3 (by omega)] at hK
  simp only [Bool.true_and] at hK
  have hK := hK _ (l1.trans lz)
  refine ldL_i dz.2.2.2.2 (bcd (fun g1 => ldL_i dz.2.1 (bcd (fun g2 => ldL_i dz.2.2.1 (bcd (fun g3 => ldL_i dz.2.2.2.1 ?_) fun g => ?_)) fun g => ?_)) fun g => ?_)
  · rw [decide_eq_true (by omega), decide_eq_true (by omega), decide_eq_true (by omega)] at hK
    simp only [Bool.true_and] at hK
    have : decide (((ql : Nat) : Int) ≤ (10 : Int)) = decide (x.drops.length ≤ 10) := decide_eq_decide.2 (by omega)
    rw [this]; exact hK
  · rw [decide_eq_true (by omega), decide_eq_true (by omega), decide_eq_false (by omega)] at hK; exact hK
  · rw [decide_eq_true (by omega), decide_eq_false (by omega)] at hK; exact hK
  · rw [decide_eq_false (by omega)] at hK; exact hK
end
end Go.Proofs.Ytbpbgkpkkklipaa
namespace Go.Proofs.Ytbpbgkpkkklipaa
open Go.V
/-! ### Patches that come in -/
abbrev lidE : Enc (Int × Int) := (Enc.int .u32).pair (Enc.int .i64)
abbrev edE : Enc ((Int × Int) × (Int × Int)) := lidE.pair lidE
abbrev hkE : Enc (ByteArray × List ByteArray × List ((Int × Int) × (Int × Int)) × List (Int × Int)) := Enc.str.pair (Enc.str.sl.pair (edE.sl.pair lidE.sl))
abbrev PtX : Type := Int × List Int × List ByteArray × List ByteArray × List (ByteArray × List ByteArray × List ((Int × Int) × (Int × Int)) × List (Int × Int))
abbrev ptE : Enc PtX := (Enc.int .u32).pair ((Enc.int .u32).sl.pair (Enc.str.sl.pair (Enc.str.sl.pair hkE.sl)))
def toLid (x : Int × Int) : Lid := ⟨x.1, x.2⟩
def toEd (x : (Int × Int) × (Int × Int)) : Ed := ⟨toLid x.1, toLid x.2⟩
def toHk (x : ByteArray × List ByteArray × List ((Int × Int) × (Int × Int)) × List (Int × Int)) : Hk := ⟨L x.1, x.2.1.map L, x.2.2.1.map toEd, x.2.2.2.map toLid⟩
def toPt (x : PtX) : Pt := ⟨x.1, x.2.1, x.2.2.1.map L, x.2.2.2.1.map L, x.2.2.2.2.map toHk⟩
theorem lidE_rep {H : Hp} {cs : List Value} {x : Int × Int} (h : lidE.rep H cs x) : cs = lidC (toLid x) := by
  obtain ⟨c1, c2, rfl, ⟨h1, _⟩, ⟨h2, _⟩⟩ := h
  rw [h1, h2]; rfl
theorem edE_rep {H : Hp} {cs : List Value} {x : (Int × Int) × (Int × Int)} (h : edE.rep H cs x) : cs = edC (toEd x) := by
  obtain ⟨c1, c2, rfl, h1, h2⟩ := h
  rw [lidE_rep h1, lidE_rep h2]; rfl
theorem strs_sv {H : Hp} {p : Option Addr} {l c : Nat} {xs : List ByteArray} (h : Enc.str.rows H p l c xs) : Sl sv H p l c (xs.map L) := by
  obtain ⟨e, hc, hh⟩ := h.strs
  refine ⟨by rw [List.length_map]; exact e, hc, hh.imp (fun e => by rw [e]; rfl) fun ⟨b, o, e, hh⟩ => ⟨b, o, e, fun i hi => ?_⟩⟩
  rw [List.length_map] at hi
  rw [List.getElem_map]
  exact hh i hi
theorem hks_hkH {H : Hp} {p : Option Addr} {l c : Nat} {xs : List (ByteArray × List ByteArray × List ((Int × Int) × (Int × Int)) × List (Int × Int))} (h : hkE.rows H p l c xs) : HkH H p l c (xs.map toHk) := by
  refine ⟨by rw [List.length_map]; exact h.1, h.2.1, ?_⟩
  by_cases hn : xs = []
  · left; rw [hn]; rfl
  · right
    have hpos : 0 < xs.length := List.length_pos_iff.2 hn
    obtain ⟨b, o, hp⟩ := h.2.2.2.1 (by have := h.1; have := h.2.1; omega)
    refine ⟨b, o, hp, fun i hi => ?_⟩
    rw [List.length_map] at hi
    obtain ⟨cs, ⟨c1, c2, rfl, ⟨h1, _⟩, ⟨c3, c4, rfl, ⟨ap, al, ac, rfl, h3⟩, ⟨c5, c6, rfl, ⟨ep, el, ec, rfl, h4⟩, ⟨kp, kl, kc, rfl, h5⟩⟩⟩⟩, h6⟩ := h.2.2.2.2 b o hp i hi
    rw [List.getElem_map]
    have h1 : c1 = [.string xs[i].1] := h1
    subst h1
    exact ⟨ap, al, ac, ep, el, ec, kp, kl, kc, h6 0 _ rfl, h6 1 _ rfl, h6 2 _ rfl, h6 3 _ rfl, strs_sv h3, (h4.sn edE_rep).map, (h5.sn lidE_rep).map⟩
theorem ptE_rep {H : Hp} {cs : List Value} {x : PtX} (h : ptE.rep H cs x) :
    ∃ dp dl dc mp ml mc qp ql qc hp hl hc, cs = [.int .u32 x.1, .slice dp dl dc, .slice mp ml mc, .slice qp ql qc, .slice hp hl hc] ∧ PtS H x.1 dp dl dc mp ml mc qp ql qc hp hl hc (toPt x) ∧ (hl ≤ 9223372036854775807 ∧ ml ≤ 9223372036854775807 ∧ ql ≤ 9223372036854775807) := by
  obtain ⟨c1, c2, rfl, ⟨h1, _⟩, ⟨c3, c4, rfl, ⟨dp, dl, dc, rfl, h2⟩, ⟨c5, c6, rfl, ⟨mp, ml, mc, rfl, h3⟩, ⟨c7, c8, rfl, ⟨qp, ql, qc, rfl, h4⟩, ⟨hp, hl, hc, rfl, h5⟩⟩⟩⟩⟩ := h
  have h1 : c1 = [.int .u32 x.1] := h1
  subst h1
  exact ⟨dp, dl, dc, mp, ml, mc, qp, ql, qc, hp, hl, hc, rfl, ⟨rfl, h2.ints, strs_sv h3, strs_sv h4, hks_hkH h5⟩, Nat.le_trans h5.2.1 h5.2.2.1, Nat.le_trans h3.2.1 h3.2.2.1, Nat.le_trans h4.2.1 h4.2.2.1⟩
end Go.Proofs.Ytbpbgkpkkklipaa
namespace Go.Proofs.Ytbpbgkpkkklipaa
open Go.V
section
variable {H H' : Hp} {p : Option Addr} {l c : Nat} {xs : List Pt}
theorem ptL_rep {xs : List PtX} (h : ptE.rows H p l c xs) : PtL H p l c (xs.map toPt) := by
  refine ⟨by rw [List.length_map]; exact h.1, h.2.1, ?_⟩
  by_cases hn : xs = []
  · left; rw [hn]; rfl
  · right
    have hpos : 0 < xs.length := List.length_pos_iff.2 hn
    obtain ⟨b, o, hp⟩ := h.2.2.2.1 (by have := h.1; have := h.2.1; omega)
    refine ⟨b, o, hp, fun i hi => ?_⟩
    rw [List.length_map] at hi
    obtain ⟨cs, hr, h6⟩ := h.2.2.2.2 b o hp i hi
    obtain ⟨dp, dl, dc, mp, ml, mc, qp, ql, qc, hp', hl', hc, rfl, h7, h8⟩ := ptE_rep hr
    rw [List.getElem_map]
    exact ⟨dp, dl, dc, mp, ml, mc, qp, ql, qc, hp', hl', hc, h6 0 _ rfl, h6 1 _ rfl, h6 2 _ rfl, h6 3 _ rfl, h6 4 _ rfl, h7, h8⟩
end
def fewAB (xs : List Pt) : Bool := xs.all fewB && decide (xs.length ≤ 16)
section
variable {H : Hp} {p : Option Addr} {l cc : Nat} {xs : List Pt}
theorem take_all {xs : List Pt} {g : Pt → Bool} {i : Nat} (hi : i < xs.length) : (xs.take (i + 1)).all g = ((xs.take i).all g && g xs[i]) := by
  rw [List.take_succ_eq_append_getElem hi, List.all_append]; simp
theorem allP_bad {xs : List Pt} {g : Pt → Bool} {i : Nat} (hi : i < xs.length) (h : g xs[i] = false) : xs.all g = false := by
  rw [List.all_eq_false]
  exact ⟨_, List.getElem_mem hi, by rw [h]; decide⟩
theorem centolaw17_fewAll.c {K : Bool → Hp → Prop} (h : PtL H p l cc xs) (hll : l ≤ 9223372036854775807) (hK : ∀ H', Le H H' → K (fewAB xs) H') : centolaw17_fewAll.C p l cc H K := by
  apply centolaw17_fewAll.of
  have el := h.1
  unfold fewAB at hK
  refine ⟨fun t Hx => ∃ i : Nat, t = (i : Nat) ∧ i ≤ xs.length ∧ Le H Hx ∧ (xs.take i).all fewB = true, fun t _ => ((xs.length : Int) - t).toNat, ⟨0, rfl, Nat.zero_le _, Le.refl _, rfl⟩, ?_⟩
  rintro t Hx ⟨i, rfl, gi, lx, hi'⟩
  refine bcd (fun hlt => ?_) fun hlt => ?_
  · have hi : i < xs.length := by omega
    refine rsP (h.le lx) rfl hi fun dp dl dc mp ml mc qp ql qc hp hl hc hx hbd => centolaw17_few.c hx hbd fun H2 l2 => bcn (fun hf => ?_) fun hf => ?_
    · have := hK H2 (lx.trans l2)
      rw [allP_bad hi hf, Bool.false_and] at this; exact this
    · exact chk (by omega) ⟨⟨i + 1, by omega, by omega, lx.trans l2, by rw [take_all hi, hi', hf]; rfl⟩, by first | omega | (dsimp only; omega)⟩
  · rw [List.take_of_length_le (by omega)] at hi'
    have := hK Hx lx
    rw [hi', Bool.true_and] at this
    have e : decide (((l : Nat) : Int) ≤ 16) = decide (xs.length ≤ 16) := decide_eq_decide.2 (by omega)
    rw [e]; exact this
end
end Go.Proofs.Ytbpbgkpkkklipaa
