/- Laws for those who prove contracts over the reckoner's neat forms. -/
import Derived.Test.YteijgmmjgbgffaaDoorVcUse
import Derived.Below
import Derived.Laws.Append
namespace Go.V

/-! ### Steps -/
@[simp] theorem bc_true {A B : Prop} : bc true A B = A := rfl
@[simp] theorem bc_false {A B : Prop} : bc false A B = B := rfl
theorem bc_i {b : Bool} {A B : Prop} (h : b = true → A) (h' : b = false → B) : bc b A B := by cases b; exact h' rfl; exact h rfl
theorem bcd {p : Prop} [Decidable p] {A B : Prop} (h : p → A) (h' : ¬p → B) : bc (decide p) A B :=
  bc_i (fun e => h (of_decide_eq_true e)) (fun e => h' (of_decide_eq_false e))
theorem bcn {b : Bool} {A B : Prop} (h : b = false → A) (h' : b = true → B) : bc (!b) A B := by cases b; exact h rfl; exact h' rfl
theorem idx {k n : Nat} {F : Nat → Prop} (h : k < n) (hF : F k) : IDX (k : Int) n F := ⟨k, rfl, h, hF⟩
theorem idxN {i : Int} {n : Nat} {F : Nat → Prop} (k : Nat) (hi : i = (k : Int)) (h : k < n) (hF : F k) : IDX i n F := ⟨k, hi, h, hF⟩
theorem idxZ {i : Int} {n : Nat} {F : Nat → Prop} (h0 : 0 ≤ i) (h : i < (n : Int)) (hF : F i.toNat) : IDX i n F := ⟨i.toNat, by omega, by omega, hF⟩
theorem idx0 {n : Nat} {F : Nat → Prop} (h : 0 < n) (hF : F 0) : IDX (0 : Int) n F := ⟨0, rfl, h, hF⟩
theorem chk {e : Int} {F : Int → Prop} (h : -9223372036854775808 ≤ e ∧ e ≤ 9223372036854775807) (hF : F e) : CHK .i64 e F := ⟨h, hF⟩
theorem chkU8 {e : Int} {F : Int → Prop} (h : 0 ≤ e ∧ e ≤ 255) (hF : F e) : CHK .u8 e F := ⟨h, hF⟩
theorem chkU64 {e : Int} {F : Int → Prop} (h : 0 ≤ e ∧ e ≤ 18446744073709551615) (hF : F e) : CHK .u64 e F := ⟨h, hF⟩
@[simp] theorem NIL_some {b o : Nat} {F : Nat → Nat → Prop} : NIL (some ⟨b, o, none⟩) F = F b o := rfl
theorem ldI_i {k : IntKind} {x : Option Value} {F : Int → Prop} {n : Int} (h : x = some (.int k n)) (hF : F n) : ldI k x F := ⟨n, h, hF⟩
theorem ldB_i {x : Option Value} {F : Bool → Prop} {n : Bool} (h : x = some (.bool n)) (hF : F n) : ldB x F := ⟨n, h, hF⟩
theorem ldS_i {x : Option Value} {F : ByteArray → Prop} {n : ByteArray} (h : x = some (.string n)) (hF : F n) : ldS x F := ⟨n, h, hF⟩
theorem ldP_i {x : Option Value} {F : Option Addr → Prop} {n : Option Addr} (h : x = some (.pointer n)) (hF : F n) : ldP x F := ⟨n, h, hF⟩
theorem ldL_i {x : Option Value} {F : Option Addr → Nat → Nat → Prop} {p : Option Addr} {l c : Nat} (h : x = some (.slice p l c)) (hF : F p l c) : ldL x F := ⟨p, l, c, h, hF⟩

/-! ### Heaps -/
/-- All of H but what lies in S stands in H' too. -/
def Ext (S : Nat → Prop) (H H' : Hp) : Prop := ∀ b c, H b = some c → ¬ S b → H' b = some c
def Le (H H' : Hp) : Prop := ∀ b c, H b = some c → H' b = some c
theorem Le.refl (H : Hp) : Le H H := fun _ _ h => h
theorem Le.trans {A B C : Hp} (h : Le A B) (h' : Le B C) : Le A C := fun b c e => h' b c (h b c e)
theorem Le.rd {H H' : Hp} (h : Le H H') {b o : Nat} {v : Value} (e : rd H b o = some v) : rd H' b o = some v := by
  unfold Go.V.rd at *
  cases hb : H b with
  | none => rw [hb] at e; cases e
  | some c => rw [h b c hb]; rw [hb] at e; exact e

theorem nm_cell {v : Value} (h : isCell v = true) : nmO v = some v := by cases v <;> first | rfl | cases h
theorem rd_upd (H : Hp) (b : Nat) (c : List Value) (b' o : Nat) : rd (upd H b c) b' o = if b' = b then (c[o]?).bind nmO else rd H b' o := by
  unfold rd upd; split <;> rfl
theorem rd_wr {H : Hp} {b o : Nat} {v x : Value} {b' o' : Nat} (h : rd H b o = some x) (hv : isCell v = true) : rd (wr H b o v) b' o' = if b' = b then (if o' = o then some v else rd H b' o') else rd H b' o' := by
  unfold rd wr at *
  by_cases hb : b' = b
  · subst hb
    simp only [if_true]
    cases hH : H b' with
    | none => rw [hH] at h; cases h
    | some c =>
      rw [hH] at h
      simp only [Option.map_some, Option.bind_some, List.getElem?_set] at h ⊢
      by_cases ho : o' = o
      · subst ho
        simp only [if_true]
        have hl : o' < c.length := by
          rcases Nat.lt_or_ge o' c.length with h' | h'
          · exact h'
          · rw [List.getElem?_eq_none h'] at h; cases h
        simp [hl, nm_cell hv]
      · rw [if_neg (Ne.symm ho), if_neg ho]
  · simp only [hb, if_false]
theorem Le.upd {H : Hp} {b : Nat} {c : List Value} (h : H b = none) : Le H (upd H b c) := fun b' c' e => by
  unfold Go.V.upd; split
  · subst_vars; rw [h] at e; cases e
  · exact e
theorem rd_some_none {H : Hp} {b o : Nat} (h : H b = none) : rd H b o = none := by unfold rd; rw [h]; rfl

theorem ne_of_rd {H : Hp} {u o v : Nat} {x : Value} (h : rd H u o = some x) (hv : H v = none) : u ≠ v := by
  intro e; subst e; rw [rd_some_none hv] at h; cases h
theorem rd_upd_self {H : Hp} {b o : Nat} {c : List Value} : rd (upd H b c) b o = (c[o]?).bind nmO := by rw [rd_upd, if_pos rfl]
theorem rd_upd_ne {H : Hp} {b b' o : Nat} {c : List Value} (h : b' ≠ b) : rd (upd H b c) b' o = rd H b' o := by rw [rd_upd, if_neg h]
theorem wr_upd {H : Hp} {b o : Nat} {c : List Value} {v : Value} : wr (upd H b c) b o v = upd H b (c.set o v) := by
  funext x
  unfold wr upd
  by_cases h : x = b
  · simp [h]
  · simp [h]
theorem ST_upd {H : Hp} {b o : Nat} {c : List Value} {v : Value} {K : Hp → Prop} (h : ((c[o]?).bind nmO).isSome = true) (hK : K (upd H b (c.set o v))) : ST (upd H b c) b o v K :=
  ⟨by rw [rd_upd_self]; exact h, by rw [wr_upd]; exact hK⟩
theorem rd_rep {H : Hp} {b n k : Nat} {z : Value} (h : k < n) (hz : isCell z = true := by rfl) : rd (upd H b (rep n [z])) b k = some z := by
  rw [rd_upd_self]; show ((List.replicate n z)[k]?).bind nmO = some z; rw [List.getElem?_replicate, if_pos h]; exact nm_cell hz
theorem rd_eq {H H' : Hp} {b o : Nat} (h : H' b = H b) : rd H' b o = rd H b o := by unfold rd; rw [h]
theorem wr_ne {H : Hp} {b o : Nat} {v : Value} {b' : Nat} (h : b' ≠ b) : wr H b o v b' = H b' := by unfold wr; rw [if_neg h]
theorem upd_ne {H : Hp} {b : Nat} {c : List Value} {b' : Nat} (h : b' ≠ b) : upd H b c b' = H b' := by unfold upd; rw [if_neg h]
theorem rd_wr_ne {H : Hp} {b o : Nat} {v : Value} {b' o' : Nat} (h : b' ≠ b) : rd (wr H b o v) b' o' = rd H b' o' := rd_eq (wr_ne h)
theorem rd_wr_self {H : Hp} {b o : Nat} {v x : Value} (h : rd H b o = some x) (hv : isCell v = true := by rfl) : rd (wr H b o v) b o = some v := by rw [rd_wr h hv, if_pos rfl, if_pos rfl]
theorem rd_wr_off {H : Hp} {b o o' : Nat} {v : Value} (h : o' ≠ o) : rd (wr H b o v) b o' = rd H b o' := by
  unfold rd wr
  simp only [if_true]
  cases H b with
  | none => rfl
  | some c => simp only [Option.map_some, Option.bind_some, List.getElem?_set, if_neg (Ne.symm h)]
theorem st {H : Hp} {b o : Nat} {v x : Value} {K : Hp → Prop} (h : rd H b o = some x) (hK : K (wr H b o v)) : ST H b o v K := ⟨by rw [h]; rfl, hK⟩
theorem nil {b o : Nat} {F : Nat → Nat → Prop} (h : F b o) : NIL (some ⟨b, o, none⟩) F := h
theorem ldI0 {H : Hp} {b o : Nat} {k : IntKind} {F : Int → Prop} {n : Int} (h : rd H b o = some (.int k n)) (hF : F n) : ldI k (rd H b (0 + o)) F := ⟨n, by rw [Nat.zero_add]; exact h, hF⟩
theorem ldB0 {H : Hp} {b o : Nat} {F : Bool → Prop} {n : Bool} (h : rd H b o = some (.bool n)) (hF : F n) : ldB (rd H b (0 + o)) F := ⟨n, by rw [Nat.zero_add]; exact h, hF⟩
theorem ldS0 {H : Hp} {b o : Nat} {F : ByteArray → Prop} {n : ByteArray} (h : rd H b o = some (.string n)) (hF : F n) : ldS (rd H b (0 + o)) F := ⟨n, by rw [Nat.zero_add]; exact h, hF⟩
theorem ldP0 {H : Hp} {b o : Nat} {F : Option Addr → Prop} {n : Option Addr} (h : rd H b o = some (.pointer n)) (hF : F n) : ldP (rd H b (0 + o)) F := ⟨n, by rw [Nat.zero_add]; exact h, hF⟩
theorem ldL0 {H : Hp} {b o : Nat} {F : Option Addr → Nat → Nat → Prop} {p : Option Addr} {l c : Nat} (h : rd H b o = some (.slice p l c)) (hF : F p l c) : ldL (rd H b (0 + o)) F := ⟨p, l, c, by rw [Nat.zero_add]; exact h, hF⟩
theorem st0 {H : Hp} {b o : Nat} {v x : Value} {K : Hp → Prop} (h : rd H b o = some x) (hK : K (wr H b o v)) : ST H b (0 + o) v K := by rw [Nat.zero_add]; exact st h hK
/-- make of a row, where its length is a number n. -/
theorem mk {e : Int} {n s : Nat} {F : Nat → Nat → Prop} (he : e = n) (hs : s * n ≤ 281474976710656) (hn : n < 9223372036854775808) (hF : F n n) :
    ∃ x y : Nat, e = (x : Int) ∧ e = (y : Int) ∧ x ≤ y ∧ s * y ≤ 281474976710656 ∧ y < 9223372036854775808 ∧ F x y := ⟨n, n, he, he, Nat.le_refl _, hs, hn, hF⟩
/-- A local struct of two numbers. -/
theorem newP {H : Hp} {x y : Value} {n m : Int} {k k' : IntKind} {F : Nat → Hp → Prop} (hF : ∀ b, H b = none → F b (upd H b [x, y])) :
    NEW H [.int k n, .int k' m] fun b H1 => ST H1 b 0 x fun H2 => ST H2 b 1 y fun H3 => F b H3 :=
  fun b hb => ST_upd rfl (ST_upd rfl (hF b hb))

/-- A write where only this one owns: what was there at first still stands. -/
theorem Le.wr {A H : Hp} {b o : Nat} {v : Value} (h : Le A H) (hb : A b = none) : Le A (wr H b o v) := fun b' c e => by
  unfold Go.V.wr; split
  · subst_vars; rw [hb] at e; cases e
  · exact h _ _ e
theorem Le.wrN {A : Hp} {b : Nat} (hb : A b = none) : ∀ (l : List Value) (o : Nat) (H : Hp), Le A H → Le A (wrN H b o l)
  | [], _, _, h => h
  | _ :: l, o, _, h => Le.wrN hb l (o + 1) _ (h.wr hb)

/-! ### Slices -/
def Sl {α : Type} (f : α → Value) (H : Hp) (p : Option Addr) (l c : Nat) (xs : List α) : Prop :=
  l = xs.length ∧ l ≤ c ∧ (xs = [] ∨ ∃ b o, p = some ⟨b, o, none⟩ ∧ ∀ i (h : i < xs.length), rd H b (o + i) = some (f xs[i]))
/-- Of structs of n cells. -/
def Sn {α : Type} (n : Nat) (f : α → List Value) (H : Hp) (p : Option Addr) (l c : Nat) (xs : List α) : Prop :=
  l = xs.length ∧ l ≤ c ∧ (xs = [] ∨ ∃ b o, p = some ⟨b, o, none⟩ ∧ ∀ i (h : i < xs.length) j v, (f xs[i])[j]? = some v → rd H b (o + i * n + j) = some v)

section
variable {α : Type} {f : α → Value} {H : Hp} {p : Option Addr} {l c : Nat} {xs : List α}
theorem Sl.len (h : Sl f H p l c xs) : l = xs.length := h.1
theorem Sl.nil : Sl f H p 0 c [] := ⟨rfl, Nat.zero_le _, .inl rfl⟩
theorem Sl.le {H' : Hp} (h : Sl f H p l c xs) (hle : Le H H') : Sl f H' p l c xs :=
  ⟨h.1, h.2.1, h.2.2.imp id fun ⟨b, o, hp, h⟩ => ⟨b, o, hp, fun i hi => hle.rd (h i hi)⟩⟩
theorem Sl.at (h : Sl f H p l c xs) {i : Nat} (hi : i < xs.length) : ∃ b o, p = some ⟨b, o, none⟩ ∧ ∀ i (h : i < xs.length), rd H b (o + i) = some (f xs[i]) := by
  rcases h.2.2 with h | h
  · subst h; simp at hi
  · exact h
/-- A piece of a slice. -/
theorem Sl.slice (h : Sl f H p l c xs) {j k : Nat} (hjk : j ≤ k) (hk : k ≤ xs.length) : Sl f H (movA p j 1 c) (k - j) (c - j) ((xs.take k).drop j) := by
  refine ⟨by simp; omega, by have := h.1; have := h.2.1; omega, ?_⟩
  by_cases hj : j = k
  · left; rw [hj]; simp
  · obtain ⟨b, o, hp, h'⟩ := h.at (i := j) (by omega)
    have hc : ¬ c = j := by have := h.1; have := h.2.1; omega
    refine .inr ⟨b, o + j, by subst hp; simp [movA, hc, mulS], fun i hi => ?_⟩
    simp at hi
    rw [Nat.add_assoc, h' (j + i) (by omega)]; simp
theorem Sl.take (h : Sl f H p l c xs) {k : Nat} (hk : k ≤ xs.length) : Sl f H (movA p 0 1 c) (k - 0) (c - 0) (xs.take k) := by
  simpa using h.slice (Nat.zero_le k) hk

theorem sl_nil (h : Sl f H p l c xs) {i : Int} {F : Nat → Nat → Nat → Prop} (h0 : 0 ≤ i) (hi : i < l)
    (hF : ∀ b o (hi : i.toNat < xs.length), rd H b (o + i.toNat) = some (f xs[i.toNat]) → F i.toNat b o) : IDX i l fun k => NIL p fun b o => F k b o := by
  have hl := h.1
  obtain ⟨b, o, hp, hr⟩ := h.at (i := i.toNat) (by omega)
  exact ⟨i.toNat, by omega, by omega, by subst hp; exact hF b o (by omega) (hr _ (by omega))⟩

theorem slI (h : Sl f H p l c xs) {i : Int} {k : IntKind} {g : α → Int} (hf : ∀ x, f x = .int k (g x)) {F : Int → Prop} (h0 : 0 ≤ i) (hi : i < l)
    (hF : (hi : i.toNat < xs.length) → F (g xs[i.toNat])) : IDX i l fun j => NIL p fun b o => ldI k (rd H b (o + j)) F :=
  sl_nil h h0 hi fun _ _ hi e => ⟨_, by rw [e, hf], hF _⟩
theorem slB (h : Sl f H p l c xs) {i : Int} {g : α → Bool} (hf : ∀ x, f x = .bool (g x)) {F : Bool → Prop} (h0 : 0 ≤ i) (hi : i < l)
    (hF : (hi : i.toNat < xs.length) → F (g xs[i.toNat])) : IDX i l fun j => NIL p fun b o => ldB (rd H b (o + j)) F :=
  sl_nil h h0 hi fun _ _ hi e => ⟨_, by rw [e, hf], hF _⟩
theorem slS (h : Sl f H p l c xs) {i : Int} {g : α → ByteArray} (hf : ∀ x, f x = .string (g x)) {F : ByteArray → Prop} (h0 : 0 ≤ i) (hi : i < l)
    (hF : (hi : i.toNat < xs.length) → F (g xs[i.toNat])) : IDX i l fun j => NIL p fun b o => ldS (rd H b (o + j)) F :=
  sl_nil h h0 hi fun _ _ hi e => ⟨_, by rw [e, hf], hF _⟩
theorem slP (h : Sl f H p l c xs) {i : Int} {g : α → Option Addr} (hf : ∀ x, f x = .pointer (g x)) {F : Option Addr → Prop} (h0 : 0 ≤ i) (hi : i < l)
    (hF : (hi : i.toNat < xs.length) → F (g xs[i.toNat])) : IDX i l fun j => NIL p fun b o => ldP (rd H b (o + j)) F :=
  sl_nil h h0 hi fun _ _ hi e => ⟨_, by rw [e, hf], hF _⟩
end

section
variable {α : Type} {n : Nat} {f : α → List Value} {H : Hp} {p : Option Addr} {l c : Nat} {xs : List α}
theorem Sn.len (h : Sn n f H p l c xs) : l = xs.length := h.1
theorem Sn.nil : Sn n f H p 0 c [] := ⟨rfl, Nat.zero_le _, .inl rfl⟩
theorem Sn.le {H' : Hp} (h : Sn n f H p l c xs) (hle : Le H H') : Sn n f H' p l c xs :=
  ⟨h.1, h.2.1, h.2.2.imp id fun ⟨b, o, hp, h⟩ => ⟨b, o, hp, fun i hi j v e => hle.rd (h i hi j v e)⟩⟩
theorem Sn.at (h : Sn n f H p l c xs) {i : Nat} (hi : i < xs.length) : ∃ b o, p = some ⟨b, o, none⟩ ∧ ∀ i (h : i < xs.length) j v, (f xs[i])[j]? = some v → rd H b (o + i * n + j) = some v := by
  rcases h.2.2 with h | h
  · subst h; simp at hi
  · exact h
theorem sn_nil (h : Sn n f H p l c xs) {i : Int} {F : Nat → Nat → Nat → Prop} (h0 : 0 ≤ i) (hi : i < l)
    (hF : ∀ b o (hi : i.toNat < xs.length), (∀ j v, (f xs[i.toNat])[j]? = some v → rd H b (o + i.toNat * n + j) = some v) → F i.toNat b o) : IDX i l fun k => NIL p fun b o => F k b o := by
  have hl := h.1
  obtain ⟨b, o, hp, hr⟩ := h.at (i := i.toNat) (by omega)
  exact ⟨i.toNat, by omega, by omega, by subst hp; exact hF b o (by omega) (hr _ (by omega))⟩
end

/-- Two numbers. -/
def pairC (x : Int × Int) : List Value := [.int .i64 x.1, .int .i64 x.2]
theorem snP {H : Hp} {p : Option Addr} {l c : Nat} {xs : List (Int × Int)} (h : Sn 2 pairC H p l c xs) {i : Int} {F : Int → Int → Prop} (h0 : 0 ≤ i) (hi : i < l)
    (hF : (hi : i.toNat < xs.length) → F xs[i.toNat].1 xs[i.toNat].2) :
    IDX i l fun k => NIL p fun b o => ldI .i64 (rd H b (o + k * 2)) fun x => ldI .i64 (rd H b (o + k * 2 + 1)) fun y => F x y :=
  sn_nil h h0 hi fun _ _ hi e => ⟨_, e 0 _ rfl, _, e 1 _ rfl, hF hi⟩
theorem snA {H : Hp} {p : Option Addr} {l c : Nat} {xs : List (Int × Int)} (h : Sn 2 pairC H p l c xs) {i : Int} {F : Int → Prop} (h0 : 0 ≤ i) (hi : i < l)
    (hF : (hi : i.toNat < xs.length) → F xs[i.toNat].1) :
    IDX i l fun k => NIL p fun b o => ldI .i64 (rd H b (o + k * 2)) fun x => F x :=
  sn_nil h h0 hi fun _ _ hi e => ⟨_, e 0 _ rfl, hF hi⟩
theorem snB {H : Hp} {p : Option Addr} {l c : Nat} {xs : List (Int × Int)} (h : Sn 2 pairC H p l c xs) {i : Int} {F : Int → Prop} (h0 : 0 ≤ i) (hi : i < l)
    (hF : (hi : i.toNat < xs.length) → F xs[i.toNat].2) :
    IDX i l fun k => NIL p fun b o => ldI .i64 (rd H b (o + k * 2 + 1)) fun x => F x :=
  sn_nil h h0 hi fun _ _ hi e => ⟨_, e 1 _ rfl, hF hi⟩

/-! ### Rows of noughts -/
/-- Is l just n times z (told by a test)? -/
def isRep (z : Value → Bool) : List Value → Nat → Bool
  | [], 0 => true
  | v :: r, n + 1 => match z v with
    | true => isRep z r n
    | false => false
  | _, _ => false
def zU8 : Value → Bool
  | .int .u8 (.ofNat 0) => true
  | _ => false
def zI64 : Value → Bool
  | .int .i64 (.ofNat 0) => true
  | _ => false
def zU64 : Value → Bool
  | .int .u64 (.ofNat 0) => true
  | _ => false
def zBool : Value → Bool
  | .bool false => true
  | _ => false
theorem isRep_eq {z : Value → Bool} {y : Value} (h : ∀ v, z v = true → v = y) : ∀ (l : List Value) (n : Nat), isRep z l n = true → l = List.replicate n y
  | [], 0, _ => rfl
  | [], n + 1, e => by simp [isRep] at e
  | v :: r, 0, e => by simp [isRep] at e
  | v :: r, n + 1, e => by
    rw [isRep] at e
    split at e
    · rename_i hz
      rw [h v hz, isRep_eq h r n e]; rfl
    · cases e
theorem zU8_eq : ∀ v, zU8 v = true → v = .int .u8 0 := by intro v h; unfold zU8 at h; split at h; rfl; cases h
theorem zI64_eq : ∀ v, zI64 v = true → v = .int .i64 0 := by intro v h; unfold zI64 at h; split at h; rfl; cases h
theorem zU64_eq : ∀ v, zU64 v = true → v = .int .u64 0 := by intro v h; unfold zU64 at h; split at h; rfl; cases h
theorem zBool_eq : ∀ v, zBool v = true → v = .bool false := by intro v h; unfold zBool at h; split at h; rfl; cases h

/-! ### What a function builds by append -/
/-- A row that grows by append, in memory that wasn't there in A: its cells (s to an element). -/
def Buf (s : Nat) (A H : Hp) (p : Option Addr) (l c : Nat) (cells : List Value) : Prop :=
  l * s = cells.length ∧ ((p = none ∧ l = 0 ∧ c = 0) ∨
    ∃ b rest, p = some ⟨b, 0, none⟩ ∧ A b = none ∧ H b = some (cells ++ rest) ∧ c * s = cells.length + rest.length ∧ l ≤ c ∧ (cells ++ rest).all isCell = true)

theorem Buf.none {s : Nat} {A H : Hp} : Buf s A H none 0 0 [] := ⟨by simp, .inl ⟨rfl, rfl, rfl⟩⟩
theorem Buf.le {s : Nat} {A H H' : Hp} {p : Option Addr} {l c : Nat} {cells : List Value} (h : Buf s A H p l c cells) (hle : Le H H') : Buf s A H' p l c cells :=
  ⟨h.1, h.2.imp id fun ⟨b, r, h1, h2, h3, h4⟩ => ⟨b, r, h1, h2, hle _ _ h3, h4⟩⟩

theorem rd_wrN_ne (b : Nat) : ∀ (l : List Value) (o : Nat) (H : Hp) (b' : Nat), b' ≠ b → wrN H b o l b' = H b'
  | [], _, _, _, _ => rfl
  | v :: l, o, H, b', h => by rw [wrN, rd_wrN_ne b l (o + 1) _ b' h]; unfold wr; rw [if_neg h]
theorem wrN_at (b : Nat) : ∀ (l pre old rest : List Value) (H : Hp), l.length = old.length → H b = some (pre ++ (old ++ rest)) → wrN H b pre.length l b = some (pre ++ (l ++ rest))
  | [], pre, old, rest, H, hl, h => by
    have : old = [] := List.length_eq_zero_iff.1 (by simpa using hl.symm)
    subst this; simpa [wrN] using h
  | v :: l, pre, [], rest, H, hl, h => by simp at hl
  | v :: l, pre, w :: old, rest, H, hl, h => by
    rw [wrN]
    have hw : wr H b pre.length v b = some ((pre ++ [v]) ++ (old ++ rest)) := by
      unfold wr
      rw [if_pos rfl, h]
      simp
    have := wrN_at b l (pre ++ [v]) old rest _ (by simpa using hl) hw
    simpa using this

theorem all_get {l : List Value} (h : l.all isCell = true) {i : Nat} {v : Value} (e : l[i]? = some v) : nmO v = some v := nm_cell (List.all_eq_true.1 h v (List.mem_of_getElem? e))
theorem rdN_self {H : Hp} {b : Nat} {new : List Value} {n : Nat} (h : H b = some new) (hn : new.length = n) (hc : new.all isCell = true) : rdN H b 0 n new :=
  ⟨hn, fun i v e => by unfold rd; rw [h]; simp [e, all_get hc e]⟩
theorem rdN_uniq {H : Hp} {b o n : Nat} {x y : List Value} (hx : rdN H b o n x) (hy : rdN H b o n y) : x = y := by
  apply List.ext_getElem?
  intro i
  by_cases h : i < n
  · have h1 := hx.2 i (x[i]'(by rw [hx.1]; exact h)) (by simp)
    have h2 := hy.2 i (y[i]'(by rw [hy.1]; exact h)) (by simp)
    rw [List.getElem?_eq_getElem (by rw [hx.1]; exact h), List.getElem?_eq_getElem (by rw [hy.1]; exact h), ← h1, ← h2]
  · rw [List.getElem?_eq_none (by rw [hx.1]; omega), List.getElem?_eq_none (by rw [hy.1]; omega)]

theorem rep_all {n : Nat} {zc : List Value} (h : zc.all isCell = true) : (rep n zc).all isCell = true := by
  rw [List.all_eq_true] at h ⊢
  intro x hx
  unfold rep at hx
  split at hx
  · exact h x (by rw [(List.mem_replicate.1 hx).2]; simp)
  · obtain ⟨l, hl, hx⟩ := List.mem_flatten.1 hx
    rw [(List.mem_replicate.1 hl).2] at hx
    exact h x hx
theorem rep_len {n : Nat} {zc : List Value} : (rep n zc).length = n * zc.length := by
  unfold rep
  split
  · simp
  · simp

/-- What append may rest on: n new elements, their cells, read at b. -/
theorem Buf.appN {s : Nat} {A H : Hp} {p : Option Addr} {l c : Nat} {cells : List Value} (hB : Buf s A H p l c cells) {te : TE} (hs : te.size = s) (_ : 0 < s) (hz : te.zc.length = s) (hbp : 0 < te.bytes)
    {x : Value} {new : List Value} {n : Nat} (hnl : new.length = n * s) (hcell : new.all isCell = true) (hfit : (l + n) * te.bytes ≤ 140737488355328)
    {F : Option Addr → Nat → Nat → Hp → Prop} (hA : Le A H) (hsrc : ∀ G : Nat → List Value → Prop, G n new → srcCells H s x G)
    (hF : ∀ p' c' H', Buf s A H' p' (l + n) c' (cells ++ new) → Le A H' → (∀ b, H b ≠ Option.none → p ≠ some ⟨b, 0, Option.none⟩ → H' b = H b) → F p' (l + n) c' H') (hzc : te.zc.all isCell = true := by rfl) (htl : te.tl = [] := by rfl) :
    APP H te p l c x F := by
  have hrep : ∀ k, (rep k te.zc).length = k * s := fun k => by rw [rep_len, hz]
  have hra : ∀ k, (rep k te.zc).all isCell = true := fun k => rep_all hzc
  unfold APP
  rw [hs]
  apply hsrc
  obtain ⟨hl, hB⟩ := hB
  have fresh : ∀ b', H b' = Option.none → A b' = Option.none := fun b' hb' => by
    cases h : A b' with
    | none => rfl
    | some y => rw [hA _ _ h] at hb'; cases hb'
  refine ⟨fun hle => ?_, fun hgt => ⟨?_, hbp, ?_⟩⟩
  · rcases hB with ⟨hp, hl0, hc0⟩ | ⟨b, rest, hp, hAb, hHb, hc, hlc, hall⟩
    · subst hp hl0 hc0
      have hn : n = 0 := by omega
      subst hn
      have hnew : new = [] := List.length_eq_zero_iff.1 (by simpa using hnl)
      subst hnew
      exact hF .none 0 H ⟨by simpa using hl, .inl ⟨rfl, rfl, rfl⟩⟩ hA (fun _ _ _ => rfl)
    · subst hp
      have hroom : n * s ≤ rest.length := by
        have h1 : (l + n) * s ≤ c * s := Nat.mul_le_mul_right _ hle
        rw [Nat.add_mul] at h1
        omega
      refine ⟨fun i hi => ?_, fun v hv => List.all_eq_true.1 hcell v hv, ?_⟩
      · unfold rd; rw [hHb]
        have hi' : 0 + l * s + i < (cells ++ rest).length := by simp; omega
        simp only [Option.bind_some, List.getElem?_eq_getElem hi']
        rw [all_get hall (List.getElem?_eq_getElem hi')]; rfl
      · have hw : wrN H b (0 + l * s) new b = some ((cells ++ new) ++ rest.drop (n * s)) := by
          rw [Nat.zero_add, hl]
          have := wrN_at b new cells (rest.take (n * s)) (rest.drop (n * s)) H (by simp; omega) (by rw [List.take_append_drop]; exact hHb)
          simpa using this
        refine hF _ c _ ⟨by simp [Nat.add_mul, hl, hnl], .inr ⟨b, _, rfl, hAb, hw, by simp; omega, hle, ?_⟩⟩ (Le.wrN hAb new _ H hA) (fun b' hb' hne => ?_)
        · rw [List.all_append, Bool.and_eq_true] at hall
          rw [List.all_append, List.all_append, hall.1, hcell, Bool.true_and, Bool.true_and]
          exact List.all_eq_true.2 fun v hv => List.all_eq_true.1 hall.2 v (List.mem_of_mem_drop hv)
        · exact rd_wrN_ne b new _ H b' (fun e => hne (by rw [e]))
  · exact growslice_fits hgt hfit
  · rcases hB with ⟨hp, hl0, hc0⟩ | ⟨b, rest, hp, hAb, hHb, hc, hlc, hall⟩
    · subst hp hl0 hc0
      have hcn : cells = [] := List.length_eq_zero_iff.1 (by simpa using hl.symm)
      subst hcn
      intro c' b' hb' hc'
      refine hF _ c' _ ⟨by simp [hnl], .inr ⟨b', rep (c' - (0 + n)) te.zc, rfl, fresh b' hb', by rw [htl]; simp [upd, mkl], ?_, hc', ?_⟩⟩ (hA.trans (.upd hb')) (fun b hb _ => ?_)
      · rw [hrep]; simp [hnl, ← Nat.add_mul]; congr 1; omega
      · rw [List.nil_append, List.all_append, hcell, hra]; rfl
      · unfold upd; rw [if_neg]; intro e; subst e; exact hb hb'
    · subst hp
      rw [List.all_append, Bool.and_eq_true] at hall
      refine ⟨cells, ⟨hl.symm, fun i v e => ?_⟩, fun c' b' hb' hc' => ?_⟩
      · unfold rd; rw [hHb]
        have hi : i < cells.length := by
          rcases Nat.lt_or_ge i cells.length with h | h
          · exact h
          · rw [List.getElem?_eq_none h] at e; cases e
        simp only [Option.bind_some, Nat.zero_add]
        rw [List.getElem?_append_left hi, e]
        exact all_get hall.1 e
      · refine hF _ c' _ ⟨by simp [Nat.add_mul, hl, hnl], .inr ⟨b', rep (c' - (l + n)) te.zc, rfl, fresh b' hb', by rw [htl]; simp [upd, mkl], ?_, hc', ?_⟩⟩ (hA.trans (.upd hb')) (fun b hb _ => ?_)
        · rw [hrep]; simp [← hl, hnl, ← Nat.add_mul]; congr 1; omega
        · rw [List.all_append, List.all_append, hall.1, hcell, hra]; rfl
        · unfold upd; rw [if_neg]; intro e; subst e; exact hb hb'

/-- append(out, x): one element. -/
theorem Buf.app1 {s : Nat} {A H : Hp} {p : Option Addr} {l c : Nat} {cells : List Value} (hB : Buf s A H p l c cells) (hA : Le A H) {te : TE} {new : List Value} (hs : te.size = s) (hpos : 0 < s) (hz : te.zc.length = s) (hbp : 0 < te.bytes)
    (hnl : new.length = s) (hcell : new.all isCell = true) (hfit : (l + 1) * te.bytes ≤ 140737488355328)
    {F : Option Addr → Nat → Nat → Hp → Prop}
    (hF : ∀ p' c' H', Buf s A H' p' (l + 1) c' (cells ++ new) → Le A H' → (∀ b, H b ≠ Option.none → p ≠ some ⟨b, 0, Option.none⟩ → H' b = H b) → F p' (l + 1) c' H') (hzc : te.zc.all isCell = true := by rfl) (htl : te.tl = [] := by rfl) :
    NEW H new fun b H1 => APP H1 te p l c (.slice (some ⟨b, 0, Option.none⟩) 1 1) F := by
  intro b hb
  refine (hB.le (.upd hb)).appN hs hpos hz hbp (by simpa using hnl) hcell hfit (hA.trans (.upd hb)) (fun G hG => ⟨new, rdN_self (by simp [upd]) (by simpa using hnl) hcell, hG⟩) (fun p' c' H' h1 h2 h3 => hF p' c' H' h1 h2 fun b' hb' hp => ?_) hzc htl
  have : b' ≠ b := fun e => hb' (e ▸ hb)
  rw [h3 b' (by unfold upd; rw [if_neg this]; exact hb') hp]
  unfold upd; rw [if_neg this]

variable {α : Type} {f : α → Value}
theorem Buf.sl {A H : Hp} {p : Option Addr} {l c : Nat} {xs : List α} (h : Buf 1 A H p l c (xs.map f)) : Sl f H p l c xs := by
  obtain ⟨hl, h⟩ := h
  have hl' : l = xs.length := by simpa using hl
  rcases h with ⟨_, h0, hc0⟩ | ⟨b, r, hp, _, hb, _, hlc, hall⟩
  · exact ⟨hl', by omega, .inl (List.length_eq_zero_iff.1 (by omega))⟩
  · refine ⟨hl', hlc, .inr ⟨b, 0, hp, fun i hi => ?_⟩⟩
    have e : (xs.map f ++ r)[0 + i]? = some (f xs[i]) := by simp [List.getElem?_append_left, hi]
    unfold rd; rw [hb]
    simp only [Option.bind_some, e]
    exact all_get hall e

theorem flatMap_get {n : Nat} {f : α → List Value} (hf : ∀ x, (f x).length = n) : ∀ (xs : List α) (i : Nat) (h : i < xs.length) (j : Nat), j < n → (xs.flatMap f)[i * n + j]? = (f xs[i])[j]?
  | x :: xs, 0, _, j, hj => by simp [List.getElem?_append_left, hf, hj]
  | x :: xs, i + 1, h, j, hj => by
    rw [List.flatMap_cons, List.getElem?_append_right (by rw [hf, Nat.add_mul]; omega), hf, show (i + 1) * n + j - n = i * n + j by rw [Nat.add_mul]; omega]
    exact flatMap_get hf xs i (by simpa using h) j hj

theorem Buf.sn {n : Nat} {f : α → List Value} (hf : ∀ x, (f x).length = n) (hn : 0 < n) {A H : Hp} {p : Option Addr} {l c : Nat} {xs : List α} (h : Buf n A H p l c (xs.flatMap f)) : Sn n f H p l c xs := by
  obtain ⟨hl, h⟩ := h
  have hlen : (xs.flatMap f).length = xs.length * n := by
    clear h hl
    induction xs with
    | nil => simp
    | cons x xs ih => rw [List.flatMap_cons, List.length_append, ih, hf, List.length_cons, Nat.add_mul]; omega
  rw [hlen] at hl
  have hl' := Nat.eq_of_mul_eq_mul_right hn hl
  rcases h with ⟨_, h0, hc0⟩ | ⟨b, r, hp, _, hb, _, hlc, hall⟩
  · exact ⟨hl', by omega, .inl (List.length_eq_zero_iff.1 (by omega))⟩
  · refine ⟨hl', hlc, .inr ⟨b, 0, hp, fun i hi j v e => ?_⟩⟩
    have hj : j < n := by
      rcases Nat.lt_or_ge j n with h | h
      · exact h
      · rw [List.getElem?_eq_none (by rw [hf]; exact h)] at e; cases e
    unfold rd; rw [hb]
    have hlt : i * n + j < (xs.flatMap f).length := by
      rw [hlen]
      have : (i + 1) * n ≤ xs.length * n := Nat.mul_le_mul_right _ hi
      rw [Nat.add_mul] at this; omega
    simp only [Option.bind_some, Nat.zero_add]
    rw [List.getElem?_append_left hlt, flatMap_get hf xs i hi j hj, e]
    exact all_get hall (i := i * n + j) (by rw [List.getElem?_append_left hlt, flatMap_get hf xs i hi j hj, e])

/-! ### From heaps back to worlds -/
theorem mask_inj {u v : Value} {p q : Prop} [Decidable p] [Decidable q] (h : (if p then Value.tuple ⟨[u]⟩ else emb u) = (if q then Value.tuple ⟨[v]⟩ else emb v)) : u = v ∧ (p ↔ q) := by
  by_cases hp : p <;> by_cases hq : q <;> simp only [hp, hq, if_true, if_false, iff_self, and_true] at h ⊢
  · simp only [Value.tuple.injEq, Array.mk.injEq, List.cons.injEq, and_true] at h
    exact h
  · exfalso; cases v <;> simp [emb] at h
  · exfalso; cases u <;> simp [emb] at h
  · cases u <;> cases v <;> simp [emb] at h ⊢ <;> exact h
theorem mapV_inj {es es' : List MapEntry} {c c' : Nat} (h : mapV es c = mapV es' c') : es = es' ∧ c = c' := by
  simp only [mapV, List.cons.injEq, Value.tuple.injEq, Array.mk.injEq, Value.int.injEq, true_and, and_true] at h
  obtain ⟨h1, h2⟩ := h
  refine ⟨?_, by omega⟩
  clear h1
  induction es generalizing es' with
  | nil => cases es' with
    | nil => rfl
    | cons => simp at h2
  | cons e es ih => cases es' with
    | nil => simp at h2
    | cons e' es' =>
      simp only [List.map_cons, List.cons.injEq, Value.tuple.injEq, Array.mk.injEq, Value.int.injEq, true_and, and_true] at h2
      obtain ⟨⟨a1, a2, a3⟩, h3⟩ := h2
      obtain ⟨k, v, b⟩ := e
      obtain ⟨k', v', b'⟩ := e'
      simp only at a1 a2 a3
      have : b = b' := by omega
      rw [ih h3, a2, a3, this]
theorem iterV_inj {m m' : Option Nat} {a a' b b' : Nat} {s s' : List Nat} (h : iterV m a s b = iterV m' a' s' b') : m = m' ∧ a = a' ∧ s = s' ∧ b = b' := by
  simp only [iterV, List.cons.injEq, Value.tuple.injEq, Array.mk.injEq, Value.int.injEq, true_and, and_true] at h
  obtain ⟨⟨h0, h1, h1'⟩, h2⟩ := h
  refine ⟨?_, by omega, ?_, by omega⟩
  · cases m <;> cases m' <;> simp [optV] at h0 ⊢ <;> omega
  · clear h0 h1 h1'
    induction s generalizing s' with
    | nil => cases s' with
      | nil => rfl
      | cons => simp at h2
    | cons e es ih => cases s' with
      | nil => simp at h2
      | cons e' es' =>
        simp only [List.map_cons, List.cons.injEq, Value.tuple.injEq, Array.mk.injEq, Value.int.injEq, true_and, and_true] at h2
        rw [ih h2.2, show e = e' by omega]
theorem mapV_ne_iterV {es : List MapEntry} {c : Nat} {m : Option Nat} {a b : Nat} {s : List Nat} : mapV es c ≠ iterV m a s b := by simp [mapV, iterV]

theorem objB_eq [Sp] {o o' : Obj} {c : List Value} (h : objB o = some c) (h' : objB o' = some c) (ht : TagLe (tagOf o) (tagOf o')) : o' = o := by
  cases o with
  | cells c1 t1 f1 =>
    obtain ⟨lo, hi⟩ := f1
    cases o' with
    | cells c2 t2 f2 =>
      obtain ⟨lo', hi'⟩ := f2
      have htt : t2 = t1 ∧ c2.size = c1.size := by
        rcases ht with ht | ⟨k, l, g, l', g', n, h1, h2, _⟩
        · simp only [tagOf, Option.some.injEq, Prod.mk.injEq] at ht
          exact ⟨by have := ht.1; exact Nat.add_right_cancel this, ht.2.2.2⟩
        · simp only [tagOf, Option.some.injEq, Prod.mk.injEq] at h1 h2
          exact ⟨Nat.add_right_cancel (h2.1.trans h1.1.symm), h2.2.2.2.trans h1.2.2.2.symm⟩
      obtain ⟨rfl, hsz⟩ := htt
      simp only [objB, Option.some.injEq] at h h'
      rw [← h', mkl_eq, mkl_eq] at h
      have hm := (List.append_inj h (by rw [maskL_len, maskL_len]; simp [hsz])).1
      have each : ∀ i, i < c1.size → c1[i]? = c2[i]? ∧ ((lo ≤ i ∧ i < hi) ↔ (lo' ≤ i ∧ i < hi')) := fun i hi => by
        have e1 : (maskL lo _ c1.toList)[i]? = (maskL lo' _ c2.toList)[i]? := congrArg (fun l : List Value => l[i]?) hm
        rw [maskL_get, maskL_get] at e1
        have a1 : c1.toList[i]? = some c1[i] := by simp [hi]
        have a2 : c2.toList[i]? = some (c2[i]'(by rw [hsz]; exact hi)) := by simp [hsz, hi]
        rw [a1, a2] at e1
        simp only [Option.map_some, Option.some.injEq] at e1
        obtain ⟨e2, e3⟩ := mask_inj e1
        refine ⟨?_, e3⟩
        rw [← Array.getElem?_toList, ← Array.getElem?_toList, a1, a2, e2]
      have hc : c2 = c1 := by
        apply Array.ext hsz
        intro i h1 h2
        have := (each i h2).1
        rw [Array.getElem?_eq_getElem h2, Array.getElem?_eq_getElem h1] at this
        exact (Option.some.inj this).symm
      subst hc
      have hf : (lo', hi') = (lo, hi) := by
        rcases ht with ht | ⟨k, l, g, l', g', n, h1, h2, _, i, hi1, hi2, hi3⟩
        · simp only [tagOf, Option.some.injEq, Prod.mk.injEq] at ht
          rw [ht.2.1, ht.2.2.1]
        · simp only [tagOf, Option.some.injEq, Prod.mk.injEq] at h1 h2
          obtain ⟨_, rfl, rfl, rfl⟩ := h1
          obtain ⟨_, rfl, rfl, _⟩ := h2
          exact absurd ((each i hi1).2.2 hi2) hi3
      rw [hf]
    | _ => rcases ht with ht | ⟨k, l, g, l', g', n, h1, h2, _⟩ <;> simp [tagOf] at *
             <;> omega
  | map es1 c1 =>
    cases o' with
    | map es2 c2 =>
      simp only [objB, Option.some.injEq] at h h'
      rw [← h'] at h
      obtain ⟨h1, h2⟩ := mapV_inj h
      have : es1 = es2 := Array.ext' h1
      rw [this, h2]
    | mapIter m a s b =>
      simp only [objB, Option.some.injEq] at h h'
      rw [← h'] at h
      exact absurd h mapV_ne_iterV
    | cells c2 t2 f2 => rcases ht with ht | ⟨k, l, g, l', g', n, h1, h2, _, i, hi1, _⟩ <;> simp [tagOf] at * <;> omega
    | _ => simp [objB] at h'
  | mapIter m a s b =>
    cases o' with
    | mapIter m' a' s' b' =>
      simp only [objB, Option.some.injEq] at h h'
      rw [← h'] at h
      obtain ⟨h1, h2, h3, h4⟩ := iterV_inj h
      have : s = s' := Array.ext' h3
      rw [h1, h2, this, h4]
    | map es c =>
      simp only [objB, Option.some.injEq] at h h'
      rw [← h'] at h
      exact absurd h.symm mapV_ne_iterV
    | cells c2 t2 f2 => rcases ht with ht | ⟨k, l, g, l', g', n, h1, h2, _, i, hi1, _⟩ <;> simp [tagOf] at * <;> omega
    | _ => simp [objB] at h'
  | _ => simp [objB] at h

theorem belowOf [Sp] {w w' : World} (hg : Ge 0 w w') (hl : Le (hp w) (hp w')) : RowKit.Below w.heap.size w w' := by
  refine ⟨hg.os, hg.tape, hg.output, hg.size, fun b hb => ?_⟩
  cases hh : hp w b with
  | none => exact hg.keep b (Nat.zero_le _) hb hh
  | some c =>
    have h2 := hl _ _ hh
    have ht := hg.tags b (Nat.zero_le _) hb
    unfold hp at hh h2
    unfold tagAt at ht
    cases ho : w.heap[b]? with
    | none => rw [ho] at hh; cases hh
    | some o =>
      cases ho' : w'.heap[b]? with
      | none => rw [ho'] at h2; cases h2
      | some o' =>
        rw [ho] at hh
        rw [ho'] at h2
        rw [ho, ho'] at ht
        rw [objB_eq hh h2 ht]
end Go.V
