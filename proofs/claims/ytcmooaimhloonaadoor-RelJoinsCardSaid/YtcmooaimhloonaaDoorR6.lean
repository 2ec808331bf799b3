/- For every input RelJoins returns true, and what came in reads as it did: tied to the table of math/bits. -/
import Derived.Test.YtcmooaimhloonaaDoorR5
import Derived.Test.YtcmooaimhloonaaDoorBT
namespace Go.Proofs.YtcmooaimhloonaaDoor
open Go.V
open Go.ChangeShapes Go.WideShapes Go.ChangeAt Go.RowKit Go.WideElems Go.WideMaps
/-- The first i pairs, from a place on. -/
def turnP (l : List (Int × Int)) (t : Nat) (i : Nat) : List (Int × Int) := (List.range i).map fun j => l.getD ((j + t) % l.length) (0, 0)
theorem turnP_mem {l : List (Int × Int)} {t : Nat} (p : Int × Int) : p ∈ turnP l t l.length ↔ p ∈ l := by
  unfold turnP
  simp only [List.mem_map, List.mem_range]
  constructor
  · rintro ⟨j, hj, e⟩
    have hl : 0 < l.length := by omega
    have hm := Nat.mod_lt (j + t) hl
    rw [← e]; simp [List.getD, hm]
  · intro h
    obtain ⟨j, hj, rfl⟩ := List.mem_iff_getElem.1 h
    have hl : 0 < l.length := by omega
    have hm := Nat.mod_lt t hl
    refine ⟨(j + (l.length - t % l.length)) % l.length, Nat.mod_lt _ hl, ?_⟩
    have : ((j + (l.length - t % l.length)) % l.length + t) % l.length = j := by
      rw [Nat.add_mod, Nat.mod_mod, ← Nat.add_mod]
      have h2 : j + (l.length - t % l.length) + t = j + (l.length + (t - t % l.length)) := by have := Nat.mod_le t l.length; omega
      have h3 : t - t % l.length = l.length * (t / l.length) := by have := Nat.div_add_mod t l.length; omega
      rw [h2, h3, show l.length + l.length * (t / l.length) = l.length * (1 + t / l.length) by rw [Nat.mul_add, Nat.mul_one], Nat.add_mul_mod_self_left, Nat.mod_eq_of_lt hj]
    rw [this]; simp [List.getD, hj]
theorem turnP_succ {l : List (Int × Int)} {t i : Nat} : turnP l t (i + 1) = turnP l t i ++ [l.getD ((i + t) % l.length) (0, 0)] := by
  unfold turnP; rw [List.range_succ, List.map_append]; rfl
theorem ofM_congr {l l' : List (Int × Int)} {n : Nat} (h : ∀ p, p ∈ l ↔ p ∈ l') : ofM l n = ofM l' n := by
  funext x y
  unfold ofM
  congr 1
  apply bool_ext
  rw [List.any_eq_true, List.any_eq_true]
  exact ⟨fun ⟨p, hp, e⟩ => ⟨p, (h p).1 hp, e⟩, fun ⟨p, hp, e⟩ => ⟨p, (h p).2 hp, e⟩⟩
/-- Joined to the closure it is the closure of both. -/
theorem jM_clo {N : Nat → Nat → Bool} {n : Nat} {a b : Int} (hs : Sup N n) : jM (clo N n) n a b = clo (addM N n a b) n := by
  unfold jM
  split
  · rename_i h
    have s1 := addM_sup (a := a) (b := b) hs
    have s2 := addM_sup (a := a) (b := b) (clo_sup hs)
    have le1 : ∀ u v, addM N n a b u v = true → clo (addM (clo N n) n a b) n u v = true := fun u v e => by
      refine clo_ge s2 ?_
      unfold addM at *
      rw [Bool.or_eq_true] at e ⊢
      exact e.imp (clo_ge hs) id
    funext x y
    apply bool_ext
    constructor
    · exact clo_least s2 (clo_tr s1) fun u v e => by
        unfold addM at e
        rw [Bool.or_eq_true] at e
        rcases e with e | e
        · exact clo_least hs (clo_tr s1) (fun u v e => clo_ge s1 (by unfold addM; rw [e]; rfl)) e
        · exact clo_ge s1 (by unfold addM; rw [e]; simp)
    · exact clo_least s1 (clo_tr s2) le1
  · rename_i h
    have : addM N n a b = N := addM_out fun g => h (decide_eq_true g)
    rw [this]

theorem relJoins_law {n : Int} {lp : Option Addr} {ll lc : Nat} {l : List (Int × Int)} {turn : Int} {H : Hp} (wn : (Lit.int .u8 n).wf = true) (hl : Sn 2 pairC H lp ll lc l) (_ : ∀ x ∈ l, (Lit.int .i64 x.1).wf = true ∧ (Lit.int .i64 x.2).wf = true) (wt : (Lit.int .u8 turn).wf = true) (hT : Tz H) :
    centolaw2_RelJoins.C n lp ll lc turn H fun r H' => r = true ∧ Le H H' := by
  apply centolaw2_RelJoins.of
  have bn := wf_u8 wn
  have bt := wf_u8 wt
  have hlen := hl.len
  refine centolaw2_known.c hT fun H0 le0 => ?_
  refine bcF ?_
  refine ⟨by decide, ?_⟩
  rw [show (16 : Int) = ((16 : Nat) : Int) from rfl, tmodN bn.1]
  have hm16 : n.toNat % 16 < 16 := Nat.mod_lt _ (by decide)
  refine chk (by omega) (chk (by omega) (bcd (fun _ => ⟨rfl, le0⟩) fun h1 => ?_))
  obtain ⟨k, hk⟩ : ∃ k : Nat, ((n.toNat % 16 : Nat) : Int) + 1 = (k : Int) := ⟨n.toNat % 16 + 1, by omega⟩
  rw [hk]
  obtain ⟨t, rfl⟩ : ∃ t : Nat, turn = t := ⟨turn.toNat, by omega⟩
  have ek : (min (max (k : Int) 0) 200).toNat = k := by omega
  refine rel_New.c (hT.le le0) fun Ra Oa H1 a1 hOa le1 => ?_
  refine rel_New.c a1.tz fun Rb Ob H2 b2 hOb le2 => ?_
  refine rel_New.c b2.tz fun Rc Oc H3 c3 hOc le3 => ?_
  rw [ek] at a1 b2 c3
  have le01 := le0.trans le1
  have le02 := le01.trans le2
  have le03 := le02.trans le3
  have a3 := (a1.le le2).le le3
  have b3 := b2.le le3
  have ab := (a1.apart hOb).1
  have ac := ((a1.le le2).apart hOc).1
  have bc' := (b2.apart hOc).1
  have sy : ∀ {P Q : List Nat}, (∀ x ∈ P, x ∉ Q) → ∀ x ∈ Q, x ∉ P := fun h x hx hp => h x hp hx
  refine ⟨fun i H' => ∃ (i' : Nat) (Oa Ob Oc : List Nat), i = i' ∧ i' ≤ ll ∧ Le H H' ∧ RLO H' Ra Oa k (clo (ofM (l.take i') k) k) ∧ RLO H' Rb Ob k (clo (ofM (turnP l t i') k) k) ∧ RLO H' Rc Oc k (ofM (l.take i') k) ∧
      (∀ x ∈ Oa, H x = none) ∧ (∀ x ∈ Ob, H x = none) ∧ (∀ x ∈ Oc, H x = none) ∧ (∀ x ∈ Ob, x ∉ Oa) ∧ (∀ x ∈ Oc, x ∉ Oa) ∧ (∀ x ∈ Oc, x ∉ Ob), fun i _ => (ll - i).toNat,
    ⟨0, Oa, Ob, Oc, rfl, by omega, le03, a3.congr fun x y => ?_, b3.congr fun x y => ?_, c3.congr fun x y => by simp [ofM], fun x hx => none_of_le le0 (hOa x hx), fun x hx => none_of_le le01 (hOb x hx), fun x hx => none_of_le le02 (hOc x hx), ab, ac, bc'⟩, ?_⟩
  · have : ofM (l.take 0) k = fun _ _ => false := by funext u v; simp [ofM]
    rw [this, clo_of_tr (fun _ _ _ => rfl) (fun _ _ _ h => by cases h)]
  · have : ofM (turnP l t 0) k = fun _ _ => false := by funext u v; simp [ofM, turnP]
    rw [this, clo_of_tr (fun _ _ _ => rfl) (fun _ _ _ h => by cases h)]
  clear hOa hOb hOc ab ac bc' a1 a3 b2 b3 c3
  rintro i H4 ⟨i, Oa, Ob, Oc, rfl, hi, le4, a4, b4, c4, oa, ob, oc, ab, ac, bc'⟩
  refine bcd (fun h => ?_) (fun h => ?_)
  · have hil : i < l.length := by omega
    refine chk (by omega) (chk (by omega) ⟨by omega, ?_⟩)
    rw [tmodN (by omega)]
    have ej : ((i : Int) + t).toNat % ll = (i + t) % l.length := by rw [hlen]; congr 1
    rw [ej]
    have hj' : (i + t) % l.length < l.length := Nat.mod_lt _ (by omega)
    refine snP (hl.le le4) (by omega) (by omega) fun hj => ?_
    have eget : l[((((i + t) % l.length : Nat) : Int)).toNat] = l.getD ((i + t) % l.length) (0, 0) := by
      simp only [Int.toNat_natCast]
      simp [List.getD, hj']
    rw [eget]
    refine newP fun b hb => ?_
    have le5 : Le H4 (upd H4 b [.int .i64 (l.getD ((i + t) % l.length) (0, 0)).1, .int .i64 (l.getD ((i + t) % l.length) (0, 0)).2]) := .upd hb
    have r0 : rd (upd H4 b [.int .i64 (l.getD ((i + t) % l.length) (0, 0)).1, .int .i64 (l.getD ((i + t) % l.length) (0, 0)).2]) b 0 = some (.int .i64 (l.getD ((i + t) % l.length) (0, 0)).1) := rd_upd_self
    have r1 : rd (upd H4 b [.int .i64 (l.getD ((i + t) % l.length) (0, 0)).1, .int .i64 (l.getD ((i + t) % l.length) (0, 0)).2]) b 1 = some (.int .i64 (l.getD ((i + t) % l.length) (0, 0)).2) := rd_upd_self
    generalize upd H4 b [.int .i64 (l.getD ((i + t) % l.length) (0, 0)).1, .int .i64 (l.getD ((i + t) % l.length) (0, 0)).2] = H5 at *
    have a5 := a4.le le5
    have b5 := b4.le le5
    have c5 := c4.le le5
    have le05 := le4.trans le5
    have hbA : b ∉ Oa := fun h => a4.there _ h hb
    refine snA (hl.le le05) (by omega) (by omega) fun _ => ?_
    refine snB (hl.le le05) (by omega) (by omega) fun _ => ?_
    simp only [Int.toNat_natCast]
    refine rel_Rel_Join.c a5 fun Oa' H6 a6 m6 n6 => ?_
    have le06 := m6.le le05 oa
    have b6 := b5.mod m6 (sy ab) a5.g
    have c6 := c5.mod m6 (sy ac) a5.g
    have oa' : ∀ x ∈ Oa', H x = none := fun x hx => (n6 x hx).elim (oa x) fun h => none_of_le le05 h
    have ab6 : ∀ x ∈ Ob, x ∉ Oa' := sy (b5.stay (sy ab) n6)
    have ac6 : ∀ x ∈ Oc, x ∉ Oa' := sy (c5.stay (sy ac) n6)
    refine ldI_i (m6.rd hbA r0) (ldI_i (m6.rd hbA r1) ?_)
    refine rel_Rel_Join.c b6 fun Ob' H7 b7 m7 n7 => ?_
    have le07 := m7.le le06 ob
    have a7 := a6.mod m7 (fun x hx => ab6 x hx) b6.g
    have c7 := c6.mod m7 (sy bc') b6.g
    have ob' : ∀ x ∈ Ob', H x = none := fun x hx => (n7 x hx).elim (ob x) fun h => none_of_le le06 h
    have ab7 : ∀ x ∈ Ob', x ∉ Oa' := a6.stay ab6 n7
    have bc7 : ∀ x ∈ Oc, x ∉ Ob' := sy (c6.stay (sy bc') n7)
    refine snA (hl.le le07) (by omega) (by omega) fun _ => ?_
    refine snB (hl.le le07) (by omega) (by omega) fun _ => ?_
    simp only [Int.toNat_natCast]
    refine rel_Rel_Add.c c7 fun H8 c8 m8 => ?_
    have le08 := m8.le le07 oc
    have a8 := a7.mod m8 ac6 c7.g
    have b8 := b7.mod m8 bc7 c7.g
    have hts := List.take_succ_eq_append_getElem hil
    refine chk (by omega) ⟨⟨i + 1, Oa', Ob', Oc, by omega, by omega, le08, ?_, ?_, ?_, oa', ob', oc, ab7, ac6, bc7⟩, by first | omega | (dsimp only; omega)⟩
    · rw [hts, ofM_snoc, ← jM_clo (ofM_sup _ _)]; exact a8
    · rw [turnP_succ, ofM_snoc, ← jM_clo (ofM_sup _ _)]; exact b8
    · rw [hts, ofM_snoc]; exact c8
  · have e1 : l.take i = l := List.take_of_length_le (by omega)
    have e2 : ofM (turnP l t i) k = ofM l k := ofM_congr fun p => by rw [show i = l.length by omega]; exact turnP_mem p
    rw [e1] at a4 c4
    rw [e2] at b4
    have hs := ofM_sup l k
    have hpl := prs_len_le (clo (ofM l k) k) k
    have hk2 : k * k ≤ 256 := Nat.mul_le_mul (show k ≤ 16 by omega) (show k ≤ 16 by omega)
    refine rel_Rel_Pairs.c a4 fun p5 l5 c5 H5 s5 _ le5 => ?_
    refine rel_Rel_Pairs.c (b4.le le5) fun p6 l6 c6 H6 s6 _ le6 => ?_
    refine centolaw2_same.c (s5.le le6) s6 (by omega) ?_
    rw [decide_eq_true rfl]
    have le56 := le5.trans le6
    refine bcT (rel_Rel_Pairs.c (a4.le le56) fun p7 l7 c7 H7 s7 _ le7 => ?_)
    refine rel_Rel_Closure.c (c4.le (le56.trans le7)) fun R8 O8 H8 u8 _ le8 => ?_
    refine rel_Rel_Pairs.c u8 fun p9 l9 c9 H9 s9 _ le9 => ?_
    refine centolaw2_same.c ((s7.le le8).le le9) s9 (by omega) ?_
    rw [decide_eq_true rfl]
    have le69 := (((le56.trans le7).trans le8).trans le9)
    refine bcT (rel_Rel_IsTransitive.c (a4.le le69) fun H10 le10 => ?_)
    exact ⟨(trB_iff (clo_sup hs)).2 (clo_tr hs), (le4.trans le69).trans le10⟩

set_option maxRecDepth 100000 in
theorem relJoins_lifted (os : Os) (started : os.Started) (H : Type) (enc : TypeId × Value → H) :
    ReturnsInHanded {} Tryd.checked os 5 .any (fun w args => (Rows.relJoinsSpec.pre enc Tryd.prog Tryd.f5 [] false w args ∧ laidMetH Tryd.prog laidTz w) ∧ sizedMet enc Tryd.prog Tryd.f5 (OpenSpec.ofChange Rows.relJoinsSpec) false w args)
      (Rows.relJoinsSpec.post enc Tryd.prog Tryd.f5 false true false false) := by
  refine returnsInHanded_of_change_and (C := Tryd.checked) (X := fun w _ => laidMetH Tryd.prog laidTz w) (fun _ _ _ hh h => h.of_heap hh) Tryd.own started (by kernel_rfl) Tryd.func5
    (ChangeSpec.witness_shaped (enc := enc) (C := Tryd.checked) (os := os) (X := fun w _ => laidMetH Tryd.prog laidTz w) false (World.doorLaid Tryd.prog 400 os) #[.int .u8 0, .slice Option.none 0 0, .int .u8 0] 8 rfl (World.shaped_of_RefB (by kernel_rfl) (by kernel_rfl)) (by kernel_rfl) (by kernel_rfl) (by kernel_rfl) (door_met os _)) ?_
  intro W base args ds gs before hval0 hW _ _ hL _
  have hval : ∀ (j : Nat) t v, Tryd.f5.params[j]? = some t → args[j]? = some v → Value.okWide Tryd.prog W .any base t v := hval0
  have hW' := hW
  obtain ⟨p, q, hA0, hV, rfl, hfz, hnd⟩ := hW
  have hA : DataW.TrodAll enc Tryd.prog W 0 (fun _ => true) true Tryd.f5.params.toList args.toList ds p := hA0
  rw [Tryd.params5] at hA hval
  obtain ⟨v0, v1, v2, d0, d1, d2, p0, p1, p2, rfl, rfl, rfl, h0, h1, h2⟩ := trodAll_three hA
  obtain ⟨x0, rfl, rfl, rfl, w0⟩ := open_int Tryd.underlying5 (hval 0 5 v0 rfl rfl) h0
  obtain ⟨q1, l1, c1, x1, rfl, s1, _, w1⟩ := open_snP Tryd.underlying22 Tryd.underlying30 (by kernel_rfl) rfl rfl rfl rfl Tryd.underlying3 (by kernel_rfl) (hval 1 22 v1 rfl rfl) h1 (fun x hx => by simp [hx]) hfz
  obtain ⟨x2, rfl, rfl, rfl, w2⟩ := open_int Tryd.underlying5 (hval 2 5 v2 rfl rfl) h2
  refine (calls_true (CallH.true (relJoins_law w0 s1 w1 w2 (tz_of_laid hL)))).mono fun e W' ⟨he, hk⟩ => ?_
  subst he
  exact ⟨_, rfl, post_true Tryd.laidOut hW' (by kernel_rfl) rfl rfl rfl Tryd.underlying4 hk⟩

theorem relJoins_row : Rows.RelJoinsSaid :=
  OpenClaim.holds_of_wide 5 Tryd.f5 rfl rfl rfl rfl rfl rfl rfl ⟨rfl, rfl, rfl, rfl, rfl⟩ rfl rfl rfl rfl rfl (by kernel_rfl) Tryd.func5 (by kernel_rfl)
    (of_decide_eq_true (by kernel_rfl)) (by unfold Func.isWrapper; first | (rw [if_pos (by decide +kernel)]; kernel_rfl) | (rw [if_neg (by decide +kernel)]; exact ⟨rfl, rfl⟩))
    (fun os started H enc _ => relJoins_lifted os started H enc)

theorem relJoins_card : Rows.RelJoinsCardSaid :=
  Claim7.holds_tied_plain_at .later [] [.data] true (true, "f14aac9e52d846e16b45683151c3010fb29280cfdf5c2d90c2c3a166c41e4a9f") false
    relJoins_row (fun _ h => by cases h) (by kernel_rfl) (fun _ h => by cases h) relJoins_row_tie rfl ⟨rfl, rfl⟩ (by kernel_rfl) rfl
    (fun f fn hf hfn => by
      obtain rfl : f = 5 := Option.some.inj ((show Tryd.prog.funcNamed Rows.relJoinsRow.func = some 5 by kernel_rfl).symm.trans hf) |>.symm
      obtain rfl : fn = Tryd.f5 := (Option.some.inj (Tryd.func5.symm.trans hfn)).symm
      exact ⟨by kernel_rfl, fun j t ht => by
        rw [Tryd.params5] at ht
        have hm : t ∈ [5, 22] := by
          have := Array.mem_of_getElem? ht
          simp at this
          first | (rcases this with rfl | rfl | rfl <;> simp) | simp [this]
        have hall : ([5, 22].all fun u => !Tryd.prog.wantsStandIn u) = true := by kernel_rfl
        exact (show Tryd.prog.wantsStandIn t = false by simpa using List.all_eq_true.1 hall t hm)⟩)
    (by kernel_rfl)
end Go.Proofs.YtcmooaimhloonaaDoor
