/- Contracts. -/
import Derived.Test.YtimgnhleaekmhaaU4
namespace Go.Proofs.Ytimgnhleaekmhaa
open Go.V
/-! ### The reference's classes -/
def MF (H : Hp) (m q : Nat) (L : List Nat) : Prop := ∃ p c, rd H m 0 = some (.slice p L.length c) ∧ L.length ≤ c ∧ ((L = [] ∧ q = m) ∨ (q ≠ m ∧ p = some ⟨q, 0, none⟩ ∧ (∀ i (h : i < L.length), rd H q i = some (iv L[i])) ∧ H q ≠ none))
theorem MF.mod {O : List Nat} {H H' : Hp} {m q : Nat} {L : List Nat} (h : MF H m q L) (hm : Mod O H H') (h1 : m ∉ O) (h2 : q ∉ O) : MF H' m q L := by
  obtain ⟨p, c, g1, g2, g3⟩ := h
  refine ⟨p, c, hm.rd h1 g1, g2, g3.imp id fun ⟨a1, a2, a3, a4⟩ => ⟨a1, a2, fun i hi => hm.rd h2 (a3 i hi), ?_⟩⟩
  cases hq : H q with
  | none => exact absurd hq a4
  | some d => rw [hm q h2 d hq]; intro e; cases e
theorem MF.le {H H' : Hp} {m q : Nat} {L : List Nat} (h : MF H m q L) (hm : Le H H') : MF H' m q L := h.mod hm.mod (O := []) (by simp) (by simp)
theorem MF.m {H : Hp} {m q : Nat} {L : List Nat} (h : MF H m q L) : H m ≠ none := by obtain ⟨p, c, g, _⟩ := h; exact ne_none_of_rd g
theorem MF.q {H : Hp} {m q : Nat} {L : List Nat} (h : MF H m q L) : H q ≠ none := by
  have hm := h.m
  obtain ⟨p, c, g, _, ⟨_, rfl⟩ | ⟨_, _, _, h⟩⟩ := h
  · exact hm
  · exact h
theorem MF.len {H : Hp} {m q : Nat} {L : List Nat} (h : MF H m q L) {F : Option Addr → Nat → Nat → Prop} (hF : ∀ p c, F p L.length c) : NIL (some ⟨m, 0, none⟩) fun b o => ldL (rd H b o) F := by
  obtain ⟨p, c, g, _⟩ := h
  exact nil (ldL_i g (hF p c))
theorem MF.get {H : Hp} {m q : Nat} {L : List Nat} (h : MF H m q L) {i : Int} {F : Int → Prop} (h0 : 0 ≤ i) (h1 : i < (L.length : Int)) (hF : F (lstI L i)) :
    NIL (some ⟨m, 0, none⟩) fun b o => ldL (rd H b o) fun xp xl _ => IDX i xl fun k => NIL xp fun b' o' => ldI .i64 (rd H b' (o' + k)) F := by
  obtain ⟨p, c, g, _, ⟨h2, _⟩ | ⟨_, h2, h3, _⟩⟩ := h
  · subst h2; simp at h1; omega
  · subst h2
    obtain ⟨hi, e⟩ := lstI_in ⟨h0, h1⟩
    rw [e] at hF
    refine nil ?_
    refine ldL_i g ?_
    refine idxZ h0 h1 ?_
    refine nil ?_
    exact ldI_i (by rw [Nat.zero_add]; exact h3 _ hi) hF
theorem MF.put {H : Hp} {m q : Nat} {L : List Nat} (h : MF H m q L) {i : Nat} {x : Nat} {F : Hp → Prop} (hi : i < L.length) (hF : ∀ H', MF H' m q (L.set i x) → Mod [q] H H' → F H') :
    NIL (some ⟨m, 0, none⟩) fun b o => ldL (rd H b o) fun xp xl _ => IDX (i : Int) xl fun k => NIL xp fun b' o' => ST H b' (o' + k) (.int .i64 (x : Int)) F := by
  obtain ⟨p, c, g, g2, ⟨h2, _⟩ | ⟨h1, h2, h3, h4⟩⟩ := h
  · subst h2; simp at hi
  · subst h2
    refine nil ?_
    refine ldL_i g ?_
    refine idx (by omega) ?_
    refine nil ?_
    have hm : Mod [q] H (wr H q i (iv x)) := Mod.refl.wr (.inl (by simp))
    refine st0 (h3 i hi) (hF _ ⟨some ⟨q, 0, none⟩, c, ?_, by simpa using g2, .inr ⟨h1, rfl, fun j hj => ?_, ?_⟩⟩ hm)
    · rw [rd_wr_ne (Ne.symm h1)]; simpa using g
    · by_cases e : j = i
      · subst e
        have := rd_wr_self (v := .int .i64 (x : Int)) (h3 j hi)
        rw [this]; simp [iv]
      · rw [rd_wr_off e, h3 _ (by simpa using hj)]; simp [Ne.symm e]
    · unfold wr; rw [if_pos rfl]
      cases hq : H q with
      | none => exact absurd hq h4
      | some d => intro e; cases e

theorem centoref7_New.c {n : Int} {H : Hp} {K : Option Addr → Hp → Prop}
    (hK : ∀ m q H', MF H' m q (List.range (min n 1000).toNat) → H m = none → H q = none → Le H H' → K (some ⟨m, 0, none⟩) H') : centoref7_New.C n H K := by
  apply centoref7_New.of
  intro m hm
  have lem : Le H (upd H m [.slice none 0 0]) := .upd hm
  refine ⟨fun i H' => ∃ i' : Nat, i = i' ∧ i' ≤ (min n 1000).toNat ∧ Le H H' ∧ ∃ p l c d, H' m = some d ∧ rd H' m 0 = some (.slice p l c) ∧ Buf 1 H H' p l c ((List.range i').map iv) ∧ Apart p (some ⟨m, 0, none⟩), fun i _ => ((min n 1000).toNat - i).toNat,
    ⟨0, rfl, by omega, lem, none, 0, 0, [.slice none 0 0], by unfold upd; rw [if_pos rfl], by rw [rd_upd_self]; rfl, Buf.none, Apart.none⟩, ?_⟩
  rintro i H1 ⟨i, rfl, hi, hle, p, l, c, d, hd, hrd, hB, ha⟩
  have hl : l = i := by have := hB.1; simpa using this
  refine bcd (fun h => ?_) (fun h => ?_)
  · refine ldL_i hrd ?_
    refine hB.pushM (new := [.int .i64 (i : Int)]) rfl (by decide) rfl (by decide) rfl rfl (by simp [te_int]; omega) (fun p' c' H2 hB2 hp hM => ?_) hle
    have hmb : m ∉ blkL p := fun h => ha m 0 0 (blkL_mem hB.zero h) rfl
    have le2 : Le H H2 := hM.le hle fun b hb => hB.fr b 0 (blkL_mem hB.zero hb)
    have rd2 := hM.rd hmb hrd
    have ap : Apart p' (some ⟨m, 0, none⟩) := by
      rcases hp with rfl | hp
      · exact ha
      · intro b o o' e e'
        simp only [Option.some.injEq, Addr.mk.injEq] at e'
        obtain ⟨rfl, _⟩ := e'
        rw [hp m o e] at hd; cases hd
    refine st rd2 (chk (by omega) ⟨⟨i + 1, by omega, by omega, le2.wr hm, p', l + 1, c', _, by unfold wr; rw [if_pos rfl, hM m hmb d hd]; rfl, rd_wr_self rd2, ?_, ap⟩, by first | omega | (dsimp only; omega)⟩)
    rw [List.range_succ, List.map_append]
    exact hB2.mod (O := [m]) (Mod.refl.wr (.inl (by simp))) fun b o e hb => by simp at hb; subst hb; exact ap _ _ _ e rfl
  · have e : i = (min n 1000).toNat := by omega
    rw [← e] at hK
    rcases hB.2 with ⟨h1, h2, h3⟩ | ⟨b, r, h1, h2, h3, h4, h5, h6⟩
    · have : i = 0 := by omega
      subst this
      exact hK m m H1 ⟨p, c, by rw [hrd, h2]; rfl, by simp, .inl ⟨rfl, rfl⟩⟩ hm hm hle
    · refine hK m b H1 ⟨p, c, by rw [hrd, hl]; simp, by simp; omega, .inr ⟨fun e => ?_, h1, fun j hj => ?_, ?_⟩⟩ hm h2 hle
      · subst e; exact ha _ _ _ h1 rfl
      · subst h1
        have := hB.rd (i := j) (v := iv j) (by simp at hj; simp [hj])
        rw [Nat.zero_add] at this
        rw [this]; simp
      · rw [h3]; intro e; cases e

/-- The loop that gives a class another least one. -/
def mrgS (L : List Nat) (x y : Nat) (i : Nat) : List Nat := ((L.take i).map fun (z : Nat) => if z = y then x else z) ++ L.drop i
theorem mrgS_len (L : List Nat) (x y i : Nat) : (mrgS L x y i).length = L.length := by unfold mrgS; simp; omega
theorem mrgS_at (L : List Nat) (x y : Nat) {i : Nat} (h : i < L.length) : (mrgS L x y i).getD i 0 = L[i] := by
  unfold mrgS
  simp only [List.getD]
  rw [List.getElem?_append_right (by simp; omega)]
  simp [Nat.min_eq_left (Nat.le_of_lt h), h]
theorem mrgS_set (L : List Nat) (x y v : Nat) {i : Nat} (h : i < L.length) (hv : v = if L[i] = y then x else L[i]) : (mrgS L x y i).set i v = mrgS L x y (i + 1) := by
  unfold mrgS
  have e : L.drop i = L[i] :: L.drop (i + 1) := List.drop_eq_getElem_cons h
  rw [List.take_succ_eq_append_getElem h, List.map_append, e, List.set_append_right _ _ (by simp; omega)]
  simp only [List.length_map, List.length_take, Nat.min_eq_left (Nat.le_of_lt h), Nat.sub_self, List.set_cons_zero, List.map_cons, List.map_nil, List.append_assoc, List.singleton_append, hv]
theorem mrgS_skip (L : List Nat) (x y : Nat) {i : Nat} (h : i < L.length) (hv : ¬ L[i] = y) : mrgS L x y i = mrgS L x y (i + 1) := by
  unfold mrgS
  rw [List.take_succ_eq_append_getElem h, List.map_append, List.drop_eq_getElem_cons h]
  simp [hv]

theorem centoref7_Union_Join.c {m q : Nat} {L : List Nat} {a b : Int} {H : Hp} {K : Bool → Hp → Prop} (hu : MF H m q L) (hl : L.length ≤ 1000) (hK : ∀ H', MF H' m q (jnL L a b) → Mod [q] H H' → K (jnB L a b) H') : centoref7_Union_Join.C (some ⟨m, 0, none⟩) a b H K := by
  apply centoref7_Union_Join.of
  have no : jnB L a b = false → K false H := fun h => by
    have e : jnL L a b = L := by unfold jnL; rw [h]; simp
    rw [← h]; exact hK H (by rw [e]; exact hu) .refl
  refine bcd (fun h => no ?_) (fun ha => bcd (fun h => no ?_) (fun hb => ?_))
  · unfold jnB; exact decide_eq_false (fun g => by omega)
  · unfold jnB; exact decide_eq_false (fun g => by omega)
  refine hu.len fun _ _ => bcd (fun h => no ?_) (fun ha' => ?_)
  · unfold jnB; exact decide_eq_false (fun g => by omega)
  refine hu.len fun _ _ => bcd (fun h => no ?_) (fun hb' => ?_)
  · unfold jnB; exact decide_eq_false (fun g => by omega)
  refine hu.get (by omega) (by omega) ?_
  refine hu.get (by omega) (by omega) ?_
  refine bcd (fun h => no ?_) (fun hne => ?_)
  · unfold jnB; exact decide_eq_false (fun g => g.2.2.2.2 h)
  have hB : jnB L a b = true := decide_eq_true ⟨by omega, by omega, by omega, by omega, hne⟩
  refine hu.get (by omega) (by omega) ?_
  refine hu.get (by omega) (by omega) ?_
  refine hu.get (by omega) (by omega) ?_
  refine hu.get (by omega) (by omega) ?_
  obtain ⟨ia, ea⟩ := lstI_in (L := L) (a := a) ⟨by omega, by omega⟩
  obtain ⟨ib, eb⟩ := lstI_in (L := L) (a := b) ⟨by omega, by omega⟩
  obtain ⟨x, hx⟩ : ∃ x : Nat, min (lstI L a) (lstI L b) = x := ⟨(min (lstI L a) (lstI L b)).toNat, by omega⟩
  obtain ⟨y, hy⟩ : ∃ y : Nat, max (lstI L a) (lstI L b) = y := ⟨(max (lstI L a) (lstI L b)).toNat, by omega⟩
  rw [hx, hy]
  refine ⟨fun i H' => ∃ i' : Nat, i = i' ∧ i' ≤ L.length ∧ MF H' m q (mrgS L x y i') ∧ Mod [q] H H', fun i _ => (L.length - i).toNat, ⟨0, rfl, by omega, by simpa [mrgS] using hu, .refl⟩, ?_⟩
  rintro i H1 ⟨i, rfl, hi, h1, m1⟩
  have hml := mrgS_len L x y i
  refine h1.len fun _ _ => ?_
  rw [hml]
  refine bcd (fun h => ?_) (fun h => ?_)
  · have hi' : i < L.length := by omega
    refine h1.get (by omega) (by omega) ?_
    rw [lst_at (by omega), mrgS_at L x y hi']
    refine bcd (fun e => ?_) (fun e => ?_)
    · refine h1.put (x := x) (by omega) fun H2 h2 m2 => ?_
      rw [mrgS_set L x y x hi' (by rw [if_pos (by omega)])] at h2
      exact chk (by omega) ⟨⟨i + 1, by omega, by omega, h2, m1.trans m2⟩, by first | omega | (dsimp only; omega)⟩
    · rw [mrgS_skip L x y hi' (by omega)] at h1
      exact chk (by omega) ⟨⟨i + 1, by omega, by omega, h1, m1⟩, by first | omega | (dsimp only; omega)⟩
  · obtain rfl : i = L.length := by omega
    rw [← hB]
    refine hK H1 ?_ m1
    have e : mrgS L x y L.length = jnL L a b := by
      unfold mrgS jnL
      rw [hB, hx, hy]
      simp only [List.take_length, List.drop_length, List.append_nil, if_true, Int.toNat_natCast]
      apply List.map_congr_left
      intro z _
      by_cases h : z = y
      · rw [if_pos h, if_pos (by omega)]
      · rw [if_neg h, if_neg (by omega)]
    rw [← e]; exact h1

theorem centoref7_Union_Places.c {m q : Nat} {L : List Nat} {H : Hp} {K : Option Addr → Nat → Nat → Hp → Prop} (hu : MF H m q L) (hg : GoodL L) (hl : L.length ≤ 1000)
    (hK : ∀ p c H', Sl iv H' p L.length c (plc L) → New H p → Le H H' → K p L.length c H') : centoref7_Union_Places.C (some ⟨m, 0, none⟩) H K := by
  apply centoref7_Union_Places.of
  refine hu.len fun _ _ => ?_
  refine mk (n := L.length) rfl (by omega) (by omega) ?_
  intro b hb
  have hbm : m ≠ b := ne_of_none hu.m hb
  have hbq : q ≠ b := ne_of_none hu.q hb
  refine ⟨fun n t H' => ∃ t' : Nat, t = t' ∧ t' ≤ L.length ∧ n = (plcS L t').2 ∧ MF H' m q L ∧ Le H H' ∧ PRow H' b L.length (plcS L t').1, fun _ t _ => (L.length - t).toNat, ⟨0, rfl, by omega, rfl, hu.le (.upd hb), Le.upd hb, .zero⟩, ?_⟩
  rintro n t H1 ⟨t, rfl, ht, rfl, u1, le1, r1⟩
  have hle := plcS_le L t
  have hlen := plcS_len L t
  have fin : ∀ v : Nat, (plcS L (t + 1)).1 = (plcS L t).1 ++ [v] → MF (wr H1 b (0 + t) (iv v)) m q L ∧ Le H (wr H1 b (0 + t) (iv v)) ∧ PRow (wr H1 b (0 + t) (iv v)) b L.length (plcS L (t + 1)).1 := fun v e => by
    have := r1.put (v := v)
    rw [hlen] at this
    rw [e, Nat.zero_add]
    exact ⟨u1.mod (O := [b]) (Mod.refl.wr (.inl (by simp))) (by simpa using hbm) (by simpa using hbq), le1.wr hb, this⟩
  have e0 : plcS L (t + 1) = if L.getD t 0 < t then ((plcS L t).1 ++ [(plcS L t).1.getD (L.getD t 0) 0], (plcS L t).2) else ((plcS L t).1 ++ [(plcS L t).2], (plcS L t).2 + 1) := rfl
  refine u1.len fun _ _ => ?_
  refine bcd (fun h => ?_) (fun h => ?_)
  · have ht' : t < L.length := by omega
    have hgt := (hg t ht').1
    have hge : L.getD t 0 = L[t] := by simp [List.getD, ht']
    refine u1.get (by omega) (by omega) ?_
    rw [lst_at ht']
    refine bcd (fun heq => ?_) (fun hne => ?_)
    · rw [if_neg (by omega)] at e0
      obtain ⟨f1, f2, f3⟩ := fin _ (by rw [e0])
      refine idx (by omega) ?_
      refine st0 (r1 t ht') ?_
      rw [Nat.zero_add] at f1 f2 f3
      exact chk (by omega) (chk (by omega) ⟨⟨t + 1, by omega, by omega, by rw [e0]; simp, f1, f2, f3⟩, by first | omega | (dsimp only; omega)⟩)
    · rw [if_pos (by omega)] at e0
      obtain ⟨f1, f2, f3⟩ := fin _ (by rw [e0])
      refine u1.get (by omega) (by omega) ?_
      rw [lst_at ht']
      refine idx (by omega) ?_
      refine ldI_i (by rw [Nat.zero_add]; exact r1 _ (by omega)) ?_
      refine idx (by omega) ?_
      refine st0 (r1 t ht') ?_
      rw [Nat.zero_add] at f1 f2 f3
      exact chk (by omega) ⟨⟨t + 1, by omega, by omega, by rw [e0], f1, f2, f3⟩, by first | omega | (dsimp only; omega)⟩
  · obtain rfl : t = L.length := by omega
    exact hK _ _ _ (r1.sl hlen (Nat.le_refl _)) (.some hb) le1
end Go.Proofs.Ytimgnhleaekmhaa
