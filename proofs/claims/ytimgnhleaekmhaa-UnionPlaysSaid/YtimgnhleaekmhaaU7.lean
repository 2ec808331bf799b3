/- For every input UnionPlays returns true, and what came in reads as it did: no condition. -/
import Derived.Test.YtimgnhleaekmhaaU6
import Derived.Test.YtimgnhleaekmhaaVcLift
import Derived.Test.YtimgnhleaekmhaaRows
namespace Go.Proofs.Ytimgnhleaekmhaa
open Go.V
open Go.ChangeShapes Go.WideShapes Go.ChangeAt Go.RowKit
theorem take_mem_lt {row : List Nat} (hp : row.Pairwise (· < ·)) {k : Nat} (hk : k < row.length) : ∀ x ∈ row.take k, x < row[k] := by
  intro x hx
  obtain ⟨j, hj, rfl⟩ := List.mem_iff_getElem.1 hx
  simp only [List.length_take] at hj
  rw [List.getElem_take]
  exact List.pairwise_iff_getElem.1 hp j k (by omega) hk (by omega)
theorem take_succ_mem {row : List Nat} {k i : Nat} (hk : k < row.length) : i ∈ row.take (k + 1) ↔ i ∈ row.take k ∨ row[k] = i := by
  rw [List.take_succ_eq_append_getElem hk, List.mem_append, List.mem_singleton]
  exact ⟨fun h => h.imp id Eq.symm, fun h => h.imp id Eq.symm⟩

theorem centolaw6_classes.c {u q m qm : Nat} {L : List Nat} {H : Hp} {K : Bool → Hp → Prop} (hu : UF H u q L) (hm : MF H m qm L) (hmq : m ∉ [q]) (hqm : qm ∉ [q]) (hl : L.length ≤ 1000)
    (hK : ∀ H', UF H' u q L → Mod [q] H H' → K true H') : centolaw6_classes.C (some ⟨u, 0, none⟩) (some ⟨m, 0, none⟩) H K := by
  apply centolaw6_classes.of
  refine union_Union_Places.c hu hl fun p1 c1 H1 s1 n1 u1 m1 => ?_
  refine centoref7_Union_Places.c (hm.mod m1 hmq hqm) u1.good hl fun p2 c2 H2 s2 n2 le2 => ?_
  refine bcd (fun h => absurd rfl h) fun _ => ?_
  refine union_Union_Classes.c (u1.le le2) hl fun p3 l3 c3 H3 g3 u3 m3 => ?_
  have s1' := s1.modF n1 (m3.after le2) fun b hb => by simp at hb; subst hb; exact hu.q
  have s2' := s2.modF n2 m3 fun b hb => by simp at hb; subst hb; exact u1.q
  have mm := (m1.andLe le2).trans m3
  have hpl : (plc L).length = L.length := plcS_len L L.length
  obtain ⟨hrows, hmem, hsum⟩ := clsS_spec (plc_ok L).1 L.length (by omega)
  have hl3 := g3.len
  have hcl : cls L = clsS (plc L) L.length := rfl
  rw [← hcl] at hrows hmem hsum
  have hcle : (cls L).length ≤ L.length := by rw [(plc_ok L).2]; exact plcS_le L _
  refine ⟨fun i H' => ∃ i' : Nat, i = i' ∧ i' ≤ L.length ∧ H3 = H', fun i _ => (L.length - i).toNat, ⟨0, rfl, by omega, rfl⟩, ?_⟩
  rintro i _ ⟨i, rfl, hi, rfl⟩
  refine bcd (fun h => ?_) (fun h => ?_)
  · have hi' : i < L.length := by omega
    obtain ⟨hk, hin⟩ := hmem i hi'
    have hget : (plc L).getD i 0 = (plc L)[i] := by simp [List.getD, hpl, hi']
    rw [hget] at hk hin
    have hrow : (cls L)[(plc L)[i]]?.getD [] = (cls L)[(plc L)[i]] := by simp [hk]
    rw [hrow] at hin
    obtain ⟨hpw, hlt⟩ := hrows _ (List.getElem_mem hk)
    refine slI s1' (g := fun n => (n : Int)) (fun _ => rfl) (by omega) (by omega) fun _ => ?_
    refine slI s2' (g := fun n => (n : Int)) (fun _ => rfl) (by omega) (by omega) fun _ => ?_
    refine bcd (fun h => absurd rfl h) fun _ => ?_
    refine slI s1' (g := fun n => (n : Int)) (fun _ => rfl) (by omega) (by omega) fun _ => ?_
    simp only [Int.toNat_natCast]
    refine bcd (fun h => absurd h (by omega)) fun _ => ?_
    refine slI s1' (g := fun n => (n : Int)) (fun _ => rfl) (by omega) (by omega) fun _ => ?_
    simp only [Int.toNat_natCast]
    refine g3.at rfl hk fun p4 l4 c4 s4 => ?_
    have hl4 := s4.len
    generalize (cls L)[(plc L)[i]] = row at *
    have hrl : row.length ≤ 1000 := by
      rcases Nat.eq_zero_or_pos row.length with h | h
      · omega
      · have h1 : ∀ j (hj : j < row.length), j ≤ row[j] := by
          intro j
          induction j with
          | zero => intro _; omega
          | succ j ih => intro hj; have := List.pairwise_iff_getElem.1 hpw j (j + 1) (by omega) hj (by omega); have := ih (by omega); omega
        have h2 := h1 (row.length - 1) (by omega)
        have h3 := hlt _ (List.getElem_mem (show row.length - 1 < row.length by omega))
        omega
    refine ⟨fun f k H' => ∃ k' : Nat, k = k' ∧ k' ≤ row.length ∧ H3 = H' ∧ f = if i ∈ row.take k' then 1 else 0, fun _ k _ => (row.length - k).toNat, ⟨0, rfl, by omega, rfl, by simp⟩, ?_⟩
    rintro f k _ ⟨k, rfl, hk', rfl, hf⟩
    refine bcd (fun h => ?_) (fun h => ?_)
    · have hkr : k < row.length := by omega
      have k2 : ∀ f' : Int, f' = (if i ∈ row.take (k + 1) then 1 else 0) → centolaw6_classes.k2 H3 (fun f k H' => ∃ k' : Nat, k = k' ∧ k' ≤ row.length ∧ H3 = H' ∧ f = if i ∈ row.take k' then 1 else 0) K f k (fun _ k _ => (row.length - k).toNat) l4 p4 f' H3 := by
        intro f' hf'
        refine bcd (fun h => ?_) (fun h => ?_)
        · refine slI s4 (g := fun n => (n : Int)) (fun _ => rfl) (by omega) (by omega) fun _ => ?_
          refine chk (by omega) ?_
          refine slI s4 (g := fun n => (n : Int)) (fun _ => rfl) (by omega) (by omega) fun _ => ?_
          have e1 : ((k : Int) - 1).toNat = k - 1 := by omega
          simp only [Int.toNat_natCast, e1]
          have := List.pairwise_iff_getElem.1 hpw (k - 1) k (by omega) hkr (by omega)
          refine bcd (fun h => absurd h (by omega)) fun _ => ?_
          exact chk (by omega) ⟨⟨k + 1, by omega, by omega, by trivial, hf'⟩, by first | omega | (dsimp only; omega)⟩
        · exact chk (by omega) ⟨⟨k + 1, by omega, by omega, by trivial, hf'⟩, by first | omega | (dsimp only; omega)⟩
      refine slI s4 (g := fun n => (n : Int)) (fun _ => rfl) (by omega) (by omega) fun _ => ?_
      simp only [Int.toNat_natCast]
      refine bcd (fun h => ?_) (fun h => ?_)
      · have hno : i ∉ row.take k := fun hx => by have := take_mem_lt hpw hkr i hx; omega
        rw [if_neg hno] at hf
        refine chk (by omega) (k2 _ ?_)
        rw [if_pos ((take_succ_mem hkr).2 (.inr (by omega)))]; omega
      · refine k2 _ ?_
        rw [hf]
        by_cases hx : i ∈ row.take k
        · rw [if_pos hx, if_pos ((take_succ_mem hkr).2 (.inl hx))]
        · rw [if_neg hx, if_neg]
          intro hy
          rcases (take_succ_mem hkr).1 hy with hy | hy
          · exact hx hy
          · exact h (by omega)
    · obtain rfl : k = row.length := by omega
      rw [List.take_length, if_pos hin] at hf
      refine bcd (fun h => absurd hf h) fun _ => ?_
      exact chk (by omega) ⟨⟨i + 1, by omega, by omega, rfl⟩, by first | omega | (dsimp only; omega)⟩
  · have hle : ∀ j, j ≤ (cls L).length → (((cls L).map List.length).take j).sum ≤ L.length := fun j hj => by
      have h1 := List.sum_append (l₁ := ((cls L).map List.length).take j) (l₂ := ((cls L).map List.length).drop j)
      rw [List.take_append_drop] at h1; omega
    refine ⟨fun n i H' => ∃ i' : Nat, i = i' ∧ i' ≤ (cls L).length ∧ H3 = H' ∧ n = (((cls L).map List.length).take i').sum, fun _ i _ => ((cls L).length - i).toNat, ⟨0, rfl, by omega, rfl, by simp⟩, ?_⟩
    rintro n j _ ⟨j, rfl, hj, rfl, hn⟩
    refine bcd (fun h => ?_) (fun h => ?_)
    · have hj' : j < (cls L).length := by omega
      refine g3.at rfl hj' fun p4 l4 c4 s4 => ?_
      have hl4 := s4.len
      have h1 := hle (j + 1) (by omega)
      have h2 : (((cls L).map List.length).take (j + 1)).sum = (((cls L).map List.length).take j).sum + (cls L)[j].length := by
        rw [List.take_succ_eq_append_getElem (by simpa using hj')]; simp
      exact chk (by omega) (chk (by omega) ⟨⟨j + 1, by omega, by omega, rfl, by omega⟩, by first | omega | (dsimp only; omega)⟩)
    · obtain rfl : j = (cls L).length := by omega
      have e1 : ((cls L).map List.length).take (cls L).length = (cls L).map List.length := List.take_of_length_le (by simp)
      rw [e1, hsum] at hn
      have := hK H3 u3 mm
      rw [show decide (n = ((L.length : Nat) : Int)) = true from decide_eq_true (by omega)]
      exact this

theorem plays_k3 {Hx H : Hp} {Iq : Int → Hp → Prop} {mu : Int → Hp → Nat} {K : Bool → Hp → Prop} {a b i least : Int} {isq : Bool} {u q m qm : Nat} {L : List Nat} (hu : UF H u q L) (hm : MF H m qm L) (hmq : m ∉ [q]) (hqm : qm ∉ [q]) (hl : L.length ≤ 1000) (hi : 0 ≤ i ∧ i ≤ 100)
    (his : isq = decide (0 ≤ a ∧ 0 ≤ b ∧ a < (L.length : Int) ∧ b < (L.length : Int))) (hle : least = lstI L a) (hfin : ∀ H', UF H' u q L → Mod [q] H H' → Iq (i + 1) H' ∧ mu (i + 1) H' < mu i Hx) :
    centolaw6_UnionPlays.k3 Hx Iq K a b i isq mu (some ⟨u, 0, none⟩) (some ⟨m, 0, none⟩) least H := by
  refine union_Union_Same.c hu fun H1 u1 m1 => ?_
  have hm1 := hm.mod m1 hmq hqm
  have fin : ∀ {H2}, UF H2 u q L → Mod [q] H H2 → centolaw6_classes.C (some ⟨u, 0, none⟩) (some ⟨m, 0, none⟩) H2 fun r Hx102 => bc (!r) (K false Hx102) (CHK .i64 (i + (1 : Int)) fun x106 => Iq x106 Hx102 ∧ mu x106 Hx102 < mu i Hx) := fun u2 m2 =>
    centolaw6_classes.c u2 (hm.mod m2 hmq hqm) hmq hqm hl fun H3 u3 m3 => bcn (fun h => by cases h) fun _ => chk (by omega) (hfin H3 u3 (m2.trans m3))
  subst his hle
  refine bcd (fun h => ?_) (fun h => ?_)
  · refine hm1.get (by omega) (by omega) ?_
    refine hm1.get (by omega) (by omega) ?_
    refine bcd (fun h' => absurd ?_ h') fun _ => ?_
    · unfold smB; exact decide_eq_decide.2 ⟨fun g => g.2.2, fun g => ⟨h.1, h.2.2.1, g⟩⟩
    refine union_Union_Least.c u1 fun H2 u2 m2 => ?_
    exact bcd (fun h => absurd rfl h) fun _ => fin u2 (m1.trans m2)
  · refine bcd (fun h' => absurd ?_ h') fun _ => ?_
    · unfold smB
      refine decide_eq_false fun g => h ?_
      have : ¬ lstI L a = -1 := fun e => lstI_neg.1 e ⟨g.1, g.2.1⟩
      rw [g.2.2, lstI_neg, Decidable.not_not] at this
      exact ⟨g.1, this.1, g.2.1, this.2⟩
    refine union_Union_Least.c u1 fun H2 u2 m2 => ?_
    exact bcd (fun h => absurd rfl h) fun _ => fin u2 (m1.trans m2)

theorem plays_k1 {Hx H : Hp} {Iq : Int → Hp → Prop} {mu : Int → Hp → Nat} {K : Bool → Hp → Prop} {a b i x : Int} {isq : Bool} {u q m qm : Nat} {L : List Nat} (hu : UF H u q L) (hm : MF H m qm L) (hmq : m ∉ [q]) (hqm : qm ∉ [q]) (hl : L.length ≤ 1000) (hi : 0 ≤ i ∧ i ≤ 100) (hx : x = L.length)
    (his : isq = decide (0 ≤ a ∧ 0 ≤ b ∧ a < (L.length : Int) ∧ b < (L.length : Int))) (hfin : ∀ H', UF H' u q L → Mod [q] H H' → Iq (i + 1) H' ∧ mu (i + 1) H' < mu i Hx) :
    centolaw6_UnionPlays.k1 Hx Iq K a b i mu (some ⟨u, 0, none⟩) (some ⟨m, 0, none⟩) x isq H := by
  subst hx
  have out : ¬ (0 ≤ a ∧ a < (L.length : Int)) → centolaw6_UnionPlays.k3 Hx Iq K a b i isq mu (some ⟨u, 0, none⟩) (some ⟨m, 0, none⟩) (-1) H := fun h =>
    plays_k3 hu hm hmq hqm hl hi his (lstI_out h).symm hfin
  refine bcd (fun h => ?_) (fun h => ?_)
  · refine bcd (fun h' => ?_) (fun h' => out (by omega))
    exact hm.get h h' (plays_k3 hu hm hmq hqm hl hi his rfl hfin)
  · exact bcF (out (by omega))

theorem unionPlays_law {n : Int} {lp : Option Addr} {ll lc : Nat} {l : List (Int × Int)} {a b : Int} {H : Hp} (wn : (Lit.int .u8 n).wf = true) (hl : Sn 2 pairC H lp ll lc l) (_ : ∀ x ∈ l, (Lit.int .i64 x.1).wf = true ∧ (Lit.int .i64 x.2).wf = true)
    (_ : (Lit.int .i64 a).wf = true) (_ : (Lit.int .i64 b).wf = true) : centolaw6_UnionPlays.C n lp ll lc a b H fun r H' => r = true ∧ Le H H' := by
  apply centolaw6_UnionPlays.of
  have bn := wf_u8 wn
  have hlen := hl.len
  refine centolaw6_known.c fun H0 le0 => ?_
  refine bcn (fun h => by cases h) (fun _ => bcd (fun _ => ⟨rfl, le0⟩) fun h1 => ?_)
  refine ⟨by decide, ?_⟩
  rw [Int.tmod_eq_emod_of_nonneg bn.1]
  refine chk (by omega) ?_
  obtain ⟨k, hk⟩ : ∃ k : Nat, n % 40 = k := ⟨(n % 40).toNat, by omega⟩
  have hk40 : k < 40 := by omega
  rw [hk]
  have ek : (min (max (k : Int) 0) 1000).toNat = k := by omega
  have ek' : (min (k : Int) 1000).toNat = k := by omega
  refine union_New.c fun u q H1 u1 hu hq le1 => ?_
  refine centoref7_New.c fun m qm H2 v1 hv hq' le2 => ?_
  rw [ek] at u1
  rw [ek'] at v1
  have A2 : ∀ b ∈ [q], H b = none := fun b hb => by simp at hb; subst hb; exact none_of_le le0 hq
  have A3 : ∀ b ∈ [qm], H b = none := fun b hb => by simp at hb; subst hb; exact none_of_le (le0.trans le1) hq'
  have n1 : u ∉ [qm] := by simpa using ne_of_none u1.u hq'
  have n2 : q ∉ [qm] := by simpa using ne_of_none u1.q hq'
  have n3 : m ∉ [q] := by simpa using (ne_of_none u1.q hv).symm
  have n4 : qm ∉ [q] := by simpa using (ne_of_none u1.q hq').symm
  have le02 := (le0.trans le1).trans le2
  refine ⟨fun i H' => ∃ (i' : Nat) (L : List Nat), i = i' ∧ i' ≤ ll ∧ Le H H' ∧ UF H' u q L ∧ MF H' m qm L ∧ L.length = k, fun i _ => (ll - i).toNat, ⟨0, _, rfl, by omega, le02, u1.le le2, v1, by simp⟩, ?_⟩
  rintro i H3 ⟨i, L, rfl, hi, le3, u3, v3, lk⟩
  refine bcd (fun h => ?_) (fun h => ?_)
  · refine union_Union_Copy.c u3 (by omega) fun uc qc H4 uc4 huc hqc le4 => ?_
    have hil : i < l.length := by omega
    obtain ⟨bb, oo, hp, hr⟩ := hl.at hil
    subst hp
    have r0 := hr i hil 0 _ rfl
    have r1 := hr i hil 1 _ rfl
    simp only [Nat.add_zero] at r0
    have leH4 := le3.trans le4
    refine idx (by omega) (nil ?_)
    refine ldI_i (leH4.rd r0) ?_
    refine idx (by omega) (nil ?_)
    refine ldI_i (leH4.rd r1) ?_
    refine idx (by omega) (nil ?_)
    refine ldI_i (leH4.rd r0) ?_
    refine idx (by omega) (nil ?_)
    refine ldI_i (leH4.rd r1) ?_
    refine union_Union_Join.c (u3.le le4) fun H5 u5 m5 => ?_
    have le5 := m5.le leH4 A2
    refine ⟨le5.rd r1, le5.rd r0, ?_⟩
    refine centoref7_Union_Join.c ((v3.le le4).mod m5 n3 n4) (by omega) fun H6 v6 m6 => ?_
    refine bcd (fun h => absurd rfl h) fun _ => ?_
    have u6 := u5.mod m6 n1 n2
    have nc : ∀ b, H3 b ≠ none → b ∉ [qc] := fun b hb => by simpa using ne_of_none hb hqc
    have h3c : uc ∉ [q] ∧ qc ∉ [q] ∧ uc ∉ [qm] ∧ qc ∉ [qm] := ⟨by simpa using (ne_of_none u3.q huc).symm, by simpa using (ne_of_none u3.q hqc).symm, by simpa using (ne_of_none v3.q huc).symm, by simpa using (ne_of_none v3.q hqc).symm⟩
    have uc6 := (uc4.mod m5 h3c.1 h3c.2.1).mod m6 h3c.2.2.1 h3c.2.2.2
    refine union_Union_Join.c uc6 fun H7 uc7 m7 => ?_
    have u7 := u6.mod m7 (nc u u3.u) (nc q u3.q)
    have v7 := v6.mod m7 (nc m v3.m) (nc qm v3.q)
    have le6 := m6.le le5 A3
    have le7 := m7.le le6 fun b hb => by simp at hb; subst hb; exact none_of_le le3 hqc
    have lk' : (jnL L l[i].1 l[i].2).length = k := by rw [jnL_length]; exact lk
    have k1 : ∀ isq, isq = decide (0 ≤ a ∧ 0 ≤ b ∧ a < (k : Int) ∧ b < (k : Int)) → centolaw6_UnionPlays.k1 H3 (fun i H' => ∃ (i' : Nat) (L : List Nat), i = i' ∧ i' ≤ ll ∧ Le H H' ∧ UF H' u q L ∧ MF H' m qm L ∧ L.length = k) (fun r H' => r = true ∧ Le H H') a b i (fun i _ => (ll - i).toNat) (some ⟨u, 0, none⟩) (some ⟨m, 0, none⟩) k isq H7 := fun isq h =>
      plays_k1 u7 v7 n3 n4 (by omega) ⟨by omega, by omega⟩ (by rw [lk']) (by rw [lk']; exact h) fun H8 u8 m8 => ⟨⟨i + 1, _, by omega, by omega, m8.le le7 A2, u8, v7.mod m8 n3 n4, lk'⟩, by first | omega | (dsimp only; omega)⟩
    refine bcd (fun c1 => bcd (fun c2 => bcd (fun c3 => k1 _ ?_) (fun c3 => k1 _ ?_)) (fun c2 => k1 _ ?_)) (fun c1 => k1 _ ?_)
    · simp [c1, c2, c3]
    · exact (decide_eq_false fun g => c3 g.2.2.1).symm
    · exact (decide_eq_false fun g => c2 g.2.1).symm
    · exact (decide_eq_false fun g => c1 g.1).symm
  · refine union_Union_Len.c u3 ?_
    refine bcd (fun _ => ?_) fun h => absurd (by rw [lk]) h
    exact centolaw6_classes.c u3 v3 n3 n4 (by omega) fun H4 u4 m4 => ⟨rfl, m4.le le3 A2⟩

set_option maxRecDepth 100000 in
theorem unionPlays_lifted (os : Os) (started : os.Started) (H : Type) (enc : TypeId × Value → H) :
    ReturnsInHanded {} Try.checked os 9 .any (Rows.unionPlaysSpec.pre6 enc Try.prog Try.f9 Rows.unionPlaysRow.domain false) (Rows.unionPlaysSpec.post enc Try.prog Try.f9 false true false false) := by
  refine returnsInHanded_of_change (C := Try.checked) Try.own started (by kernel_rfl) Try.func9
    (ChangeSpec.witness6 (enc := enc) (C := Try.checked) false ⟨#[], #[.int .u8 0, .slice Option.none 0 0, .int .i64 0, .int .i64 0], []⟩ 8 (by kernel_rfl) (by kernel_rfl) (by kernel_rfl) (by kernel_rfl)) ?_
  intro W base args ds gs before hval0 hW hcnd _
  have hval : ∀ (j : Nat) t v, Try.f9.params[j]? = some t → args[j]? = some v → Value.okWide Try.prog W .any base t v := hval0
  have hW' := hW
  obtain ⟨p, q, hA0, hV, rfl, hfz, hnd⟩ := hW
  have hA : DataW.TrodAll enc Try.prog W 0 (fun _ => true) true Try.f9.params.toList args.toList ds p := hA0
  rw [Try.params9] at hA hval
  obtain ⟨v0, v1, v2, v3, d0, d1, d2, d3, p0, p1, p2, p3, rfl, rfl, rfl, h0, h1, h2, h3⟩ := trodAll_four hA
  obtain ⟨x0, rfl, rfl, rfl, w0⟩ := open_int Try.underlying5 (hval 0 5 v0 rfl rfl) h0
  obtain ⟨q1, l1, c1, x1, rfl, s1, _, w1⟩ := open_snP Try.underlying23 Try.underlying33 (by kernel_rfl) rfl rfl rfl rfl Try.underlying3 (by kernel_rfl) (hval 1 23 v1 rfl rfl) h1 (fun x hx => by simp [hx]) hfz
  obtain ⟨x2, rfl, rfl, rfl, w2⟩ := open_int Try.underlying3 (hval 2 3 v2 rfl rfl) h2
  obtain ⟨x3, rfl, rfl, rfl, w3⟩ := open_int Try.underlying3 (hval 3 3 v3 rfl rfl) h3
  refine (calls_true (CallH.true (unionPlays_law w0 s1 w1 w2 w3))).mono fun e W' ⟨he, hk⟩ => ?_
  subst he
  exact ⟨_, rfl, post_true Try.laidOut hW' (by kernel_rfl) rfl rfl rfl Try.underlying4 hk⟩

theorem unionPlays_holds : Rows.UnionPlaysSaid :=
  OpenClaim.holds_of_wide 9 Try.f9 rfl rfl rfl rfl rfl rfl rfl ⟨rfl, rfl, rfl, rfl, rfl⟩ rfl rfl rfl rfl rfl (by kernel_rfl) Try.func9 (by kernel_rfl)
    (of_decide_eq_true (by kernel_rfl)) (by unfold Func.isWrapper; first | (rw [if_pos (by decide +kernel)]; kernel_rfl) | (rw [if_neg (by decide +kernel)]; exact ⟨rfl, rfl⟩))
    (fun os started H enc _ => unionPlays_lifted os started H enc)
end Go.Proofs.Ytimgnhleaekmhaa
