/- Contracts. -/
import Derived.Test.YtimgnhleaekmhaaG1
import Derived.Test.YtimgnhleaekmhaaVcLaws
namespace Go.Proofs.Ytimgnhleaekmhaa
open Go.V
/-! ### Texts -/
def ltr (x : Int) : ByteArray := ⟨⟨[UInt8.ofNat (97 + (x.toNat % 4))]⟩⟩

theorem centolaw11_texts.b {p : Option Addr} {l c : Nat} {xs : List Int} {H : Hp} {K : Option Addr → Nat → Nat → Hp → Prop} (hx : Sl (Value.int .u8) H p l c xs) (hb : ∀ x ∈ xs, 0 ≤ x ∧ x ≤ 255) (hl : xs.length ≤ 1000)
    (hK : ∀ p' l' c' H', Buf 1 H H' p' l' c' ((xs.map ltr).map Value.string) → Le H H' → K p' l' c' H') : centolaw11_texts.C p l c H K := by
  apply centolaw11_texts.of
  have hlen := hx.len
  refine ⟨fun op ol oc i H' => 0 ≤ i ∧ i ≤ xs.length ∧ (ol : Int) = i ∧ Le H H' ∧ Buf 1 H H' op ol oc (((xs.take i.toNat).map ltr).map Value.string), fun _ _ _ i _ => (l - i).toNat, ⟨by omega, by omega, rfl, Le.refl _, by simpa using Buf.none⟩, ?_⟩
  rintro op ol oc i H1 ⟨h0, h1, h2, h3, h4⟩
  refine bcd (fun h => ?_) (fun h => ?_)
  · refine slI (hx.le h3) (g := id) (fun _ => rfl) h0 h fun hi => ⟨by omega, ?_⟩
    have hx' := hb _ (List.getElem_mem hi)
    generalize hxe : xs[i.toNat] = x at *
    rw [show id x = x from rfl, Int.tmod_eq_emod_of_nonneg hx'.1]
    refine chkU8 (by omega) ?_
    intro b hb0
    refine ⟨[UInt8.ofNat (97 + (x.toNat % 4))], rfl, ?_, ?_⟩
    · intro j y hj
      match j, hj with
      | 0, hj =>
        simp only [List.getElem?_cons_zero, Option.some.injEq] at hj; subst hj
        rw [rd_upd_self, UInt8.toNat_ofNat_of_lt' (by show _ < 256; omega), show (97 + x % 4 : Int) = ((97 + x.toNat % 4 : Nat) : Int) by omega]; rfl
    · refine Buf.app1 (h4.le (.upd hb0)) (h3.trans (.upd hb0)) rfl (by decide) rfl (by decide) rfl rfl (by simp [te_string]; omega) fun p' c' H' hB hA _ => ?_
      refine chk (by omega) ⟨⟨by omega, by omega, by omega, hA, ?_⟩, by dsimp only; omega⟩
      have : (i + 1).toNat = i.toNat + 1 := by omega
      rw [this, List.take_succ_eq_append_getElem hi]
      simpa [hxe, ltr] using hB
  · have : i.toNat = xs.length := by omega
    rw [this, List.take_length] at h4
    exact hK _ _ _ _ h4 h3
theorem centolaw11_texts.c {p : Option Addr} {l c : Nat} {xs : List Int} {H : Hp} {K : Option Addr → Nat → Nat → Hp → Prop} (hx : Sl (Value.int .u8) H p l c xs) (hb : ∀ x ∈ xs, 0 ≤ x ∧ x ≤ 255) (hl : xs.length ≤ 1000)
    (hK : ∀ p' l' c' H', Sl Value.string H' p' l' c' (xs.map ltr) → Le H H' → K p' l' c' H') : centolaw11_texts.C p l c H K :=
  centolaw11_texts.b hx hb hl fun _ _ _ _ hB hle => hK _ _ _ _ hB.sl hle

/-! ### The common part of two rows -/
def lcs : List ByteArray → List ByteArray → Nat
  | [], _ => 0
  | _ :: _, [] => 0
  | x :: a, y :: b => if x = y then lcs a b + 1 else max (lcs a (y :: b)) (lcs (x :: a) b)

theorem lcs_nil (a : List ByteArray) : lcs a [] = 0 := by cases a <;> simp [lcs]
theorem lcs_le_left : ∀ a b : List ByteArray, lcs a b ≤ a.length
  | [], _ => by simp [lcs]
  | _ :: _, [] => by simp [lcs]
  | x :: a, y :: b => by
    rw [lcs]
    have h1 := lcs_le_left a b
    have h2 := lcs_le_left a (y :: b)
    have h3 := lcs_le_left (x :: a) b
    simp only [List.length_cons] at *
    split <;> omega
termination_by a b => a.length + b.length

theorem table_zc : te_match_table.zc = List.replicate 40401 (.int .u8 0) := isRep_eq zU8_eq _ _ (by kernel_rfl)

theorem lcs_le_right : ∀ a b : List ByteArray, lcs a b ≤ b.length
  | [], _ => by simp [lcs]
  | _ :: _, [] => by simp [lcs]
  | x :: a, y :: b => by
    rw [lcs]
    have h1 := lcs_le_right a b
    have h2 := lcs_le_right a (y :: b)
    have h3 := lcs_le_right (x :: a) b
    simp only [List.length_cons] at *
    split <;> omega
termination_by a b => a.length + b.length

theorem lcs_at {a b : List ByteArray} {i k : Nat} (hi : i < a.length) (hk : k < b.length) :
    lcs (a.drop i) (b.drop k) = if a[i] = b[k] then lcs (a.drop (i + 1)) (b.drop (k + 1)) + 1 else max (lcs (a.drop (i + 1)) (b.drop k)) (lcs (a.drop i) (b.drop (k + 1))) := by
  rw [List.drop_eq_getElem_cons hi, List.drop_eq_getElem_cons hk, lcs]
theorem lcs_end {a b : List ByteArray} {i k : Nat} (h : a.length ≤ i ∨ b.length ≤ k) : lcs (a.drop i) (b.drop k) = 0 := by
  rcases h with h | h
  · rw [List.drop_eq_nil_of_le h]; simp [lcs]
  · rw [List.drop_eq_nil_of_le h, lcs_nil]

/-- The table as far as it is filled. -/
def Part (a b : List ByteArray) (H : Hp) (t : Nat) (i k : Int) : Prop :=
  ∀ i' k' : Nat, i' ≤ 200 → k' ≤ 200 → rd H t (i' * 201 + k') = some (.int .u8 ((if i < i' ∨ (i = i' ∧ k < k') then lcs (a.drop i') (b.drop k') else 0 : Nat) : Int))
def TabU (a b : List ByteArray) (H : Hp) (t : Nat) : Prop :=
  ∀ i k : Nat, i ≤ 200 → k ≤ 200 → rd H t (i * 201 + k) = some (.int .u8 ((lcs (a.drop i) (b.drop k) : Nat) : Int))
theorem TabU.le {a b : List ByteArray} {H H' : Hp} {t : Nat} (h : TabU a b H t) (hle : Le H H') : TabU a b H' t := fun i k hi hk => hle.rd (h i k hi hk)

theorem Part.put {a b : List ByteArray} {H H' : Hp} {t i k : Nat} (h : Part a b H t i k) (h1 : rd H' t (i * 201 + k) = some (.int .u8 ((lcs (a.drop i) (b.drop k) : Nat) : Int))) (h2 : ∀ j, j ≠ i * 201 + k → rd H' t j = rd H t j) (hk : k ≤ 200) :
    Part a b H' t i ((k : Int) - 1) := by
  intro i' k' hi' hk'
  by_cases e : i' = i ∧ k' = k
  · rw [e.1, e.2, h1, if_pos (by omega)]
  · rw [h2 _ (by omega), h i' k' hi' hk']
    congr 3
    have : ((i : Int) < i' ∨ (i : Int) = i' ∧ (k : Int) < k') ↔ ((i : Int) < i' ∨ (i : Int) = i' ∧ (k : Int) - 1 < k') := by omega
    simp only [this]

theorem match_of.c {ap bp : Option Addr} {al ac bl bc' : Nat} {a b : List ByteArray} {H : Hp} {K : Option Addr → Hp → Prop} (ha : Sl Value.string H ap al ac a) (hb : Sl Value.string H bp bl bc' b) (la : a.length ≤ 200) (lb : b.length ≤ 200)
    (hK : ∀ t H', TabU a b H' t → Le H H' → K (some ⟨t, 0, none⟩) H') : match_of.C ap al ac bp bl bc' H K := by
  apply match_of.of
  have hal := ha.len
  have hbl := hb.len
  intro t ht
  rw [table_zc]
  refine chk (by omega) ⟨fun i H' => -1 ≤ i ∧ i < al ∧ Le H H' ∧ Part a b H' t i 200, fun i _ => (i + 1).toNat, ⟨by omega, by omega, .upd ht, ?_⟩, ?_⟩
  · intro i' k' hi' hk'
    rw [rd_upd, if_pos rfl, List.getElem?_replicate, if_pos (by omega)]
    split
    · rw [lcs_end (.inl (by omega))]; rfl
    · rfl
  · rintro i H1 ⟨h0, h1, hle, hP⟩
    refine bcd (fun hi => ?_) (fun hi => ?_)
    · obtain ⟨i, rfl⟩ : ∃ n : Nat, i = n := ⟨i.toNat, by omega⟩
      refine chk (by omega) ⟨fun k H' => -1 ≤ k ∧ k < bl ∧ Le H H' ∧ Part a b H' t i k, fun k _ => (k + 1).toNat, ⟨by omega, by omega, hle, ?_⟩, ?_⟩
      · intro i' k' hi' hk'
        rw [hP i' k' hi' hk']
        have := @lcs_end a b i' k'
        grind
      · rintro k H2 ⟨g0, g1, gle, gP⟩
        refine bcd (fun hk => ?_) (fun hk => ?_)
        · obtain ⟨k, rfl⟩ : ∃ n : Nat, k = n := ⟨k.toNat, by omega⟩
          have l1 := lcs_le_left (a.drop (i + 1)) (b.drop (k + 1))
          have l2 := lcs_le_left (a.drop (i + 1)) (b.drop k)
          have l3 := lcs_le_right (a.drop i) (b.drop (k + 1))
          simp only [List.length_drop] at l1 l2 l3
          have p2 := gP (i + 1) k (by omega) (by omega)
          have p3 := gP i (k + 1) (by omega) (by omega)
          have p1 := gP (i + 1) (k + 1) (by omega) (by omega)
          have p0 := gP i k (by omega) (by omega)
          have hat := lcs_at (a := a) (b := b) (i := i) (k := k) (by omega) (by omega)
          rw [if_pos (by omega)] at p1 p2 p3
          refine chk (by omega) (idxN (i + 1) (by omega) (by omega) (idx (by omega) (ldI_i (by rw [Nat.zero_add]; exact p2) (chk (by omega) (idx (by omega) (idxN (k + 1) (by omega) (by omega) (ldI_i (by rw [Nat.zero_add]; exact p3) (idx (by omega) (idx (by omega) ⟨by rw [Nat.zero_add, p0]; rfl, ?_⟩)))))))))
          have le3 : Le H (wr H2 t (0 + i * 201 + k) (.int .u8 (max (lcs (a.drop (i + 1)) (b.drop k) : Int) (lcs (a.drop i) (b.drop (k + 1)))))) := gle.wr ht
          refine slS (ha.le le3) (g := id) (fun _ => rfl) (by omega) (by omega) fun hi' => slS (hb.le le3) (g := id) (fun _ => rfl) (by omega) (by omega) fun hk' => bcd (fun e => ?_) (fun e => ?_)
          · refine chk (by omega) (chk (by omega) (idxN (i + 1) (by omega) (by omega) (idxN (k + 1) (by omega) (by omega) (ldI_i (n := (lcs (a.drop (i + 1)) (b.drop (k + 1)) : Int)) ?_ (chkU8 (by omega) (idx (by omega) (idx (by omega) ⟨?_, chk (by omega) ⟨⟨by omega, by omega, le3.wr ht, ?_⟩, by dsimp only; omega⟩⟩)))))))
            · rw [rd_wr_off (by omega)]; rw [Nat.zero_add]; exact p1
            · rw [Nat.zero_add, rd_wr_self p0]; rfl
            · simp only [id, Int.toNat_natCast] at e
              rw [if_pos e] at hat
              refine gP.put ?_ (fun j hj => by rw [rd_wr_off (by omega), rd_wr_off (by omega)]) (by omega)
              rw [Nat.zero_add, rd_wr_self (rd_wr_self p0), hat]; simp
          · refine chk (by omega) ⟨⟨by omega, by omega, le3, ?_⟩, by dsimp only; omega⟩
            simp only [id, Int.toNat_natCast] at e
            rw [if_neg e] at hat
            refine gP.put ?_ (fun j hj => by rw [rd_wr_off (by omega)]) (by omega)
            rw [Nat.zero_add, rd_wr_self p0, hat]; simp; omega
        · refine chk (by omega) ⟨⟨by omega, by omega, gle, ?_⟩, by dsimp only; omega⟩
          intro i' k' hi' hk'
          rw [gP i' k' hi' hk']
          grind
    · refine hK _ _ (fun i' k' hi' hk' => ?_) hle
      rw [hP i' k' hi' hk', if_pos (by omega)]
end Go.Proofs.Ytimgnhleaekmhaa
