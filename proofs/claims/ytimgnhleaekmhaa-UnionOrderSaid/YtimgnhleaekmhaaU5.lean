/- For every input UnionOrder returns true, and what came in reads as it did: no condition. -/
import Derived.Test.YtimgnhleaekmhaaU4
import Derived.Test.YtimgnhleaekmhaaVcLift
import Derived.Test.YtimgnhleaekmhaaRows
namespace Go.Proofs.Ytimgnhleaekmhaa
open Go.V
open Go.ChangeShapes Go.WideShapes Go.ChangeAt Go.RowKit
/-- The first i pairs, from a place on, turned round. -/
def rotP (l : List (Int × Int)) (t : Nat) (i : Nat) : List (Int × Int) := (List.range i).map fun j => ((l.getD ((j + t) % l.length) (0, 0)).2, (l.getD ((j + t) % l.length) (0, 0)).1)
theorem rotP_mem {l : List (Int × Int)} {t : Nat} (p : Int × Int) : p ∈ l ↔ (p.2, p.1) ∈ rotP l t l.length := by
  unfold rotP
  simp only [List.mem_map, List.mem_range, Prod.mk.injEq]
  constructor
  · intro h
    obtain ⟨j, hj, rfl⟩ := List.mem_iff_getElem.1 h
    have hl : 0 < l.length := by omega
    have hm := Nat.mod_lt t hl
    refine ⟨(j + (l.length - t % l.length)) % l.length, Nat.mod_lt _ hl, ?_⟩
    have : ((j + (l.length - t % l.length)) % l.length + t) % l.length = j := by
      rw [Nat.add_mod, Nat.mod_mod, ← Nat.add_mod]
      have h2 : j + (l.length - t % l.length) + t = j + (l.length + (t - t % l.length)) := by have := Nat.mod_le t l.length; omega
      have h3 : t - t % l.length = l.length * (t / l.length) := by have := Nat.div_add_mod t l.length; omega
      rw [h2, h3, show l.length + l.length * (t / l.length) = l.length * (1 + t / l.length) by rw [Nat.mul_add, Nat.mul_one], Nat.add_mul_mod_self_left, Nat.mod_eq_of_lt hj]
    rw [this]; simp [List.getD, hj]
  · rintro ⟨j, hj, e1, e2⟩
    have hl : 0 < l.length := by omega
    have hm := Nat.mod_lt (j + t) hl
    have : l.getD ((j + t) % l.length) (0, 0) = p := by
      apply Prod.ext
      · exact e2
      · exact e1
    rw [← this]
    simp [List.getD, hm]
theorem rotP_succ {l : List (Int × Int)} {t i : Nat} : rotP l t (i + 1) = rotP l t i ++ [((l.getD ((i + t) % l.length) (0, 0)).2, (l.getD ((i + t) % l.length) (0, 0)).1)] := by
  unfold rotP; rw [List.range_succ, List.map_append]; rfl

theorem unionOrder_law {n : Int} {lp : Option Addr} {ll lc : Nat} {l : List (Int × Int)} {turn : Int} {H : Hp} (wn : (Lit.int .u8 n).wf = true) (hl : Sn 2 pairC H lp ll lc l) (_ : ∀ x ∈ l, (Lit.int .i64 x.1).wf = true ∧ (Lit.int .i64 x.2).wf = true) (wt : (Lit.int .u8 turn).wf = true) :
    centolaw6_UnionOrder.C n lp ll lc turn H fun r H' => r = true ∧ Le H H' := by
  apply centolaw6_UnionOrder.of
  have bn := wf_u8 wn
  have bt := wf_u8 wt
  have hlen := hl.len
  refine centolaw6_known.c fun H0 le0 => ?_
  refine bcn (fun h => by cases h) (fun _ => bcd (fun _ => ⟨rfl, le0⟩) fun h1 => ?_)
  refine ⟨by decide, ?_⟩
  rw [Int.tmod_eq_emod_of_nonneg bn.1]
  refine chk (by omega) ?_
  obtain ⟨k, hk⟩ : ∃ k : Nat, n % 40 = k := ⟨(n % 40).toNat, by omega⟩
  have hk40 : k < 40 := by omega
  rw [hk]
  obtain ⟨t, rfl⟩ : ∃ t : Nat, turn = t := ⟨turn.toNat, by omega⟩
  have ek : (min (max (k : Int) 0) 1000).toNat = k := by omega
  refine union_New.c fun u q H1 u1 hu hq le1 => ?_
  refine union_New.c fun v q' H2 v1 hv hq' le2 => ?_
  rw [ek] at u1 v1
  have A1 : H u = none := none_of_le le0 hu
  have A2 : ∀ b ∈ [q], H b = none := fun b hb => by simp at hb; subst hb; exact none_of_le le0 hq
  have A3 : ∀ b ∈ [q'], H b = none := fun b hb => by simp at hb; subst hb; exact none_of_le (le0.trans le1) hq'
  have n1 : u ∉ [q'] := by simpa using ne_of_none u1.u hq'
  have n2 : q ∉ [q'] := by simpa using ne_of_none u1.q hq'
  have n3 : v ∉ [q] := by simpa using (ne_of_none u1.q hv).symm
  have n4 : q' ∉ [q] := by simpa using (ne_of_none u1.q hq').symm
  have le02 := (le0.trans le1).trans le2
  refine ⟨fun i H' => ∃ (i' : Nat) (Lu Lv : List Nat), i = i' ∧ i' ≤ ll ∧ Le H H' ∧ UF H' u q Lu ∧ UF H' v q' Lv ∧ Lu.length = k ∧ Lv.length = k ∧ JInv Lu (l.take i') ∧ JInv Lv (rotP l t i'), fun i _ => (ll - i).toNat,
    ⟨0, _, _, rfl, by omega, le02, u1.le le2, v1, by simp, by simp, .nil, .nil⟩, ?_⟩
  rintro i H3 ⟨i, Lu, Lv, rfl, hi, le3, u3, v3, lu, lv, ju, jv⟩
  refine bcd (fun h => ?_) (fun h => ?_)
  · refine snA (hl.le le3) (by omega) (by omega) fun hi1 => ?_
    refine snB (hl.le le3) (by omega) (by omega) fun hi2 => ?_
    simp only [Int.toNat_natCast] at hi1 ⊢
    refine union_Union_Join.c u3 fun H4 u4 m4 => ?_
    have le4 := m4.le le3 A2
    have v4 := v3.mod m4 n3 n4
    refine chk (by omega) (chk (by omega) ⟨by omega, ?_⟩)
    rw [Int.tmod_eq_emod_of_nonneg (by omega)]
    have hm0 : (0 : Int) ≤ ((i : Int) + t) % ll := Int.emod_nonneg _ (by omega)
    have hm1 : ((i : Int) + t) % ll < ll := Int.emod_lt_of_pos _ (by omega)
    refine snP (hl.le le4) hm0 hm1 fun hj => ?_
    have ej : (((i : Int) + t) % ll).toNat = (i + t) % l.length := by
      rw [show ((i : Int) + t) % ll = (((i + t) % l.length : Nat) : Int) by rw [hlen]; simp]; rfl
    have hj' : (i + t) % l.length < l.length := Nat.mod_lt _ (by omega)
    have eget : l[(((i : Int) + t) % ll).toNat] = l.getD ((i + t) % l.length) (0, 0) := by
      simp only [ej]; simp [List.getD, hj']
    rw [eget]
    refine newP fun b hb => ?_
    have le5 : Le H4 (upd H4 b [.int .i64 (l.getD ((i + t) % l.length) (0, 0)).1, .int .i64 (l.getD ((i + t) % l.length) (0, 0)).2]) := .upd hb
    refine ldI_i rd_upd_self (ldI_i rd_upd_self ?_)
    refine union_Union_Join.c (v4.le le5) fun H6 v6 m6 => ?_
    refine chk (by omega) ⟨⟨i + 1, _, _, by omega, by omega, m6.le (le4.trans le5) A3, (u4.le le5).mod m6 n1 n2, v6, by rw [jnL_length]; exact lu, by rw [jnL_length]; exact lv, ?_, ?_⟩, by first | omega | (dsimp only; omega)⟩
    · rw [List.take_succ_eq_append_getElem hi1]; exact ju.step
    · rw [rotP_succ]; exact jv.step
  · obtain rfl : i = ll := by omega
    have e1 : l.take i = l := List.take_of_length_le (by omega)
    rw [e1] at ju
    rw [hlen] at jv
    obtain rfl : Lu = Lv := ju.uniq (by omega) u3.good v3.good jv fun p => rotP_mem p
    refine ⟨fun a H' => ∃ a' : Nat, a = a' ∧ a' ≤ k ∧ Le H H' ∧ UF H' u q Lu ∧ UF H' v q' Lu, fun a _ => (k - a).toNat, ⟨0, rfl, by omega, le3, u3, v3⟩, ?_⟩
    rintro a H4 ⟨a, rfl, ha, le4, u4, v4⟩
    refine bcd (fun h => ?_) (fun h => ?_)
    · have ha' : a < Lu.length := by omega
      have hg := u4.good a ha'
      have hla : lstI Lu a = (Lu[a] : Nat) := by rw [lst_at ha']; simp [List.getD, ha']
      refine union_Union_Least.c u4 fun H5 u5 m5 => ?_
      have v5 := v4.mod m5 n3 n4
      refine union_Union_Least.c v5 fun H6 v6 m6 => ?_
      have u6 := u5.mod m6 n1 n2
      refine bcd (fun h => absurd rfl h) fun _ => ?_
      refine union_Union_Least.c u6 fun H7 u7 m7 => ?_
      refine union_Union_Same.c u7 fun H8 u8 m8 => ?_
      have es : smB Lu a (lstI Lu a) = true := by
        unfold smB
        refine decide_eq_true ⟨by omega, by omega, ?_⟩
        rw [hla, lst_at hg.2.1]
        simp only [List.getD, List.getElem?_eq_getElem hg.2.1, Option.getD_some, hg.2.2]
      rw [es]
      refine bcn (fun h => by cases h) fun _ => ?_
      refine union_Union_Least.c u8 fun H9 u9 m9 => ?_
      refine bcd (fun h => absurd hg.1 (by omega)) fun _ => ?_
      have m79 := (m7.trans m8).trans m9
      exact chk (by omega) ⟨⟨a + 1, by omega, by omega, m79.le (m6.le (m5.le le4 A2) A3) A2, u9, (v6.mod m79 n3 n4)⟩, by first | omega | (dsimp only; omega)⟩
    · refine union_Union_Classes.c u4 (by omega) fun p1 l1 c1 H5 g5 u5 m5 => ?_
      refine union_Union_Classes.c (v4.mod m5 n3 n4) (by omega) fun p2 l2 c2 H6 g6 v6 m6 => ?_
      exact ⟨decide_eq_true (by rw [g5.len, g6.len]), m6.le (m5.le le4 A2) A3⟩

set_option maxRecDepth 100000 in
theorem unionOrder_lifted (os : Os) (started : os.Started) (H : Type) (enc : TypeId × Value → H) :
    ReturnsInHanded {} Try.checked os 8 .any (Rows.unionOrderSpec.pre6 enc Try.prog Try.f8 Rows.unionOrderRow.domain false) (Rows.unionOrderSpec.post enc Try.prog Try.f8 false true false false) := by
  refine returnsInHanded_of_change (C := Try.checked) Try.own started (by kernel_rfl) Try.func8
    (ChangeSpec.witness6 (enc := enc) (C := Try.checked) false ⟨#[], #[.int .u8 0, .slice Option.none 0 0, .int .u8 0], []⟩ 8 (by kernel_rfl) (by kernel_rfl) (by kernel_rfl) (by kernel_rfl)) ?_
  intro W base args ds gs before hval0 hW hcnd _
  have hval : ∀ (j : Nat) t v, Try.f8.params[j]? = some t → args[j]? = some v → Value.okWide Try.prog W .any base t v := hval0
  have hW' := hW
  obtain ⟨p, q, hA0, hV, rfl, hfz, hnd⟩ := hW
  have hA : DataW.TrodAll enc Try.prog W 0 (fun _ => true) true Try.f8.params.toList args.toList ds p := hA0
  rw [Try.params8] at hA hval
  obtain ⟨v0, v1, v2, d0, d1, d2, p0, p1, p2, rfl, rfl, rfl, h0, h1, h2⟩ := trodAll_three hA
  obtain ⟨x0, rfl, rfl, rfl, w0⟩ := open_int Try.underlying5 (hval 0 5 v0 rfl rfl) h0
  obtain ⟨q1, l1, c1, x1, rfl, s1, _, w1⟩ := open_snP Try.underlying23 Try.underlying33 (by kernel_rfl) rfl rfl rfl rfl Try.underlying3 (by kernel_rfl) (hval 1 23 v1 rfl rfl) h1 (fun x hx => by simp [hx]) hfz
  obtain ⟨x2, rfl, rfl, rfl, w2⟩ := open_int Try.underlying5 (hval 2 5 v2 rfl rfl) h2
  refine (calls_true (CallH.true (unionOrder_law w0 s1 w1 w2))).mono fun e W' ⟨he, hk⟩ => ?_
  subst he
  exact ⟨_, rfl, post_true Try.laidOut hW' (by kernel_rfl) rfl rfl rfl Try.underlying4 hk⟩

theorem unionOrder_holds : Rows.UnionOrderSaid :=
  OpenClaim.holds_of_wide 8 Try.f8 rfl rfl rfl rfl rfl rfl rfl ⟨rfl, rfl, rfl, rfl, rfl⟩ rfl rfl rfl rfl rfl (by kernel_rfl) Try.func8 (by kernel_rfl)
    (of_decide_eq_true (by kernel_rfl)) (by unfold Func.isWrapper; first | (rw [if_pos (by decide +kernel)]; kernel_rfl) | (rw [if_neg (by decide +kernel)]; exact ⟨rfl, rfl⟩))
    (fun os started H enc _ => unionOrder_lifted os started H enc)
end Go.Proofs.Ytimgnhleaekmhaa
