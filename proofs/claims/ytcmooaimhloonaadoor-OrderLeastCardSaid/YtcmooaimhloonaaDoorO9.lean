/- For every input OrderClasses returns true, and what came in reads as it did: tied to the table of math/bits. -/
import Derived.Test.YtcmooaimhloonaaDoorO7
import Derived.Test.YtcmooaimhloonaaDoorBT
import Derived.Test.YtcmooaimhloonaaDoorVcOpen
namespace Go.Proofs.YtcmooaimhloonaaDoor
open Go.V
open Go.ChangeShapes Go.WideShapes Go.ChangeAt Go.RowKit Go.WideElems Go.WideMaps
theorem cidx_one {M : Nat → Nat → Bool} (hT : Tr M) {n x y : Nat} (hx : x < n) (hy : y < n) : cidx M n x = cidx M n y ↔ oneM M x y = true := by
  rw [← hdOf_one hT]
  constructor
  · intro e
    have h1 := cidx_get hT hx
    have h2 := cidx_get hT hy
    rw [← h1, ← h2]
    congr 1
  · intro e; unfold cidx; rw [e]
theorem sum_add1 {g : Nat → Nat} {a : Nat} : ∀ T, ((List.range T).map fun t => g t + if a = t then 1 else 0).sum = ((List.range T).map g).sum + if a < T then 1 else 0
  | 0 => by simp
  | T + 1 => by
    rw [List.range_succ, List.map_append, List.map_append, List.sum_append, List.sum_append, sum_add1 T]
    simp only [List.map_cons, List.map_nil, List.sum_cons, List.sum_nil]
    by_cases h : a < T
    · rw [if_pos h, if_neg (by omega), if_pos (by omega)]; omega
    · by_cases e : a = T
      · rw [if_neg h, if_pos e, if_pos (by omega)]; omega
      · rw [if_neg h, if_neg e, if_neg (by omega)]; omega
theorem sum_count {f : Nat → Nat} {T : Nat} : ∀ l : List Nat, (∀ x ∈ l, f x < T) → ((List.range T).map fun t => (l.filter fun x => decide (f x = t)).length).sum = l.length
  | [], _ => by
    have : ∀ T, ((List.range T).map fun _ => ([] : List Nat).length).sum = 0 := fun T => by
      induction T with
      | zero => rfl
      | succ T ih => rw [List.range_succ, List.map_append, List.sum_append, ih]; rfl
    exact this T
  | a :: l, h => by
    have e : (fun t => ((a :: l).filter fun x => decide (f x = t)).length) = fun t => (l.filter fun x => decide (f x = t)).length + if f a = t then 1 else 0 := by
      funext t
      by_cases h : f a = t <;> simp [h]
    rw [e, sum_add1, sum_count l fun x hx => h x (List.mem_cons_of_mem _ hx), if_pos (h a (by simp))]
    rfl
theorem crc_sum {M : Nat → Nat → Bool} (hT : Tr M) {n : Nat} : ((crc M n).map List.length).sum = n := by
  have h := sum_count (f := cidx M n) (T := (crc M n).length) (List.range n) fun x hx => by rw [crc_len]; exact cidx_lt hT (by simpa using hx)
  rw [List.length_range] at h
  refine Eq.trans ?_ h
  congr 1
  refine List.ext_getElem (by simp) fun t h1 h2 => ?_
  have ht : t < (crc M n).length := by simpa using h1
  simp only [List.getElem_map, List.getElem_range]
  congr 1
  rw [crc_get]
  unfold clsM els
  refine List.filter_congr fun x hx => ?_
  have hx : x < n := by simpa using hx
  have := crc_mem hT ht (x := x)
  rw [crc_get, clsM_mem] at this
  rw [Bool.eq_iff_iff]
  simp only [Bool.and_eq_true, decide_eq_true_eq]
  constructor
  · rintro ⟨h1, h2⟩; exact (this.1 ⟨hx, h1, h2⟩).2
  · intro h; exact (this.2 ⟨hx, h⟩).2
theorem sum_take {l : List (List Nat)} {i : Nat} (hi : i < l.length) : ((l.take (i + 1)).map List.length).sum = ((l.take i).map List.length).sum + l[i].length := by
  rw [List.take_succ_eq_append_getElem hi, List.map_append, List.sum_append]
  simp only [List.map_cons, List.map_nil, List.sum_cons, List.sum_nil, Nat.add_zero]
theorem sum_take_le {l : List (List Nat)} {i : Nat} : ((l.take i).map List.length).sum ≤ (l.map List.length).sum := by
  conv => rhs; rw [← List.take_append_drop i l]
  rw [List.map_append, List.sum_append]
  exact Nat.le_add_right _ _
theorem cap_mod {n : Int} (h : (Lit.int .u8 n).wf = true) {k : Nat} (hk : 0 < k) (hk' : k ≤ 41 := by decide) : 0 ≤ n ∧ n ≤ 255 ∧ Int.tmod n (k : Int) = ((n.toNat % k : Nat) : Int) ∧ cap40 (Int.tmod n (k : Int)) = n.toNat % k ∧ n.toNat % k < k := by
  have h0 : 0 ≤ n ∧ n ≤ 255 := by
    simp only [Lit.wf, IntKind.min, IntKind.max, IntKind.signed, IntKind.bits] at h
    first | omega | (simp at h; omega)
  have h1 := tmodN (k := k) h0.1
  have h2 := Nat.mod_lt n.toNat hk
  refine ⟨h0.1, h0.2, h1, ?_, h2⟩
  rw [h1]; unfold cap40; omega
theorem orderClasses_law {n : Int} {lp : Option Addr} {ll lc : Nat} {l : List (Int × Int)} {H : Hp} (hn : (Lit.int .u8 n).wf = true) (hl : Sn 2 pairC H lp ll lc l) (_ : ∀ x ∈ l, (Lit.int .i64 x.1).wf = true ∧ (Lit.int .i64 x.2).wf = true)
    (hT : Tz H) : centolaw3_OrderClasses.C n lp ll lc H fun r H' => r = true ∧ Le H H' := by
  apply centolaw3_OrderClasses.of
  have hlen := hl.len
  obtain ⟨n0, n1, e1, e2, e3⟩ := cap_mod hn (k := 20) (by decide)
  refine centolaw3_known.c hT fun H0 le0 => ?_
  refine bcF ?_
  refine bcd (fun _ => ⟨rfl, le0⟩) fun hll => ?_
  refine ⟨by decide, ?_⟩
  have e1' : Int.tmod n 20 = ((n.toNat % 20 : Nat) : Int) := e1
  have e2' : cap40 (Int.tmod n 20) = n.toNat % 20 := e2
  refine chk (by rw [e1']; omega) ?_
  refine centolaw3_made.c (hl.le le0) (by omega) (hT.le le0) fun R O m Om H1 u1 _ _ le1 => ?_
  rw [e2'] at u1
  generalize n.toNat % 20 = k at *
  refine bcd (fun h => by cases h) fun _ => ?_
  have hsup := u1.sup
  have hTr := clo_tr hsup
  generalize ofM l k = M at *
  refine order_Of.c u1.rn (by omega) fun p2 l2 c2 H2 s2 le2 => ?_
  have h2 := s2.len
  have hcs : (clss (clo M k) k).length = k := by unfold clss; simp
  rw [hcs] at h2
  subst h2
  have u2 := u1.le le2
  refine rel_Rel_Closure.c u2 fun R3 O3 H3 u3 _ le3 => ?_
  have v3 := u2.le le3
  refine rel_Rel_Len.c v3 ?_
  refine bcd (fun h => absurd rfl h) fun _ => ?_
  have s3 := s2.le le3
  have leH3 := (le0.trans le1).trans (le2.trans le3)
  have hat : ∀ x (hx : x < (clss (clo M l2) l2).length), (clss (clo M l2) l2)[x] = cidx (clo M l2) l2 x := fun x hx => by
    have := List.getElem_map (cidx (clo M l2) l2) (l := List.range l2) (i := x) (h := hx)
    rw [List.getElem_range] at this; exact this
  refine ⟨fun a Hx => ∃ a' : Nat, a = a' ∧ a' ≤ l2 ∧ H3 = Hx, fun a _ => (l2 - a).toNat, ⟨0, rfl, by omega, rfl⟩, ?_⟩
  rintro a _ ⟨a, rfl, ha, rfl⟩
  refine bcd (fun h => ?_) (fun h => ?_)
  · have hal : a < l2 := by omega
    refine ⟨fun b Hx => ∃ b' : Nat, b = b' ∧ b' ≤ l2 ∧ H3 = Hx, fun b _ => (l2 - b).toNat, ⟨0, rfl, by omega, rfl⟩, ?_⟩
    rintro b _ ⟨b, rfl, hb, rfl⟩
    refine bcd (fun h => ?_) (fun h => ?_)
    · have hbl : b < l2 := by omega
      have go : CHK .i64 ((b : Int) + 1) fun x => (∃ b' : Nat, x = b' ∧ b' ≤ l2 ∧ H3 = H3) ∧ (l2 - x).toNat < (l2 - (b : Int)).toNat := chk (by omega) ⟨⟨b + 1, by omega, by omega, rfl⟩, by omega⟩
      have hone := cidx_one hTr hal hbl
      obtain ⟨q, o, hp, hr⟩ := s3.at (i := a) (by omega)
      subst hp
      have ra := hr a (by omega)
      have rb := hr b (by omega)
      rw [hat] at ra rb
      refine idxN a rfl hal (nil (ldI_i ra ?_))
      refine idxN b rfl hbl (nil (ldI_i rb ?_))
      refine bcd (fun hab => ?_) (fun hab => ?_)
      · have hab : a = b := by omega
        subst hab
        exact bcd (fun h => absurd (decide_eq_true rfl) h) fun _ => go
      · have hab : ¬ a = b := by omega
        refine rel_Rel_Has.c u3 ?_
        rw [hasM_nat]
        refine ⟨rb, ra, ?_⟩
        have hdec : decide (((cidx (clo M l2) l2 a : Nat) : Int) = ((cidx (clo M l2) l2 b : Nat) : Int)) = (clo M l2 a b && clo M l2 b a) := by
          rw [Bool.eq_iff_iff, decide_eq_true_eq, Bool.and_eq_true]
          constructor
          · intro e
            rcases oneM_iff.1 (hone.1 (by omega)) with h | h
            · exact absurd h hab
            · exact h
          · intro e
            have := hone.2 (oneM_iff.2 (.inr e))
            omega
        refine bc_i (fun h1 => ?_) (fun h1 => ?_)
        · refine rel_Rel_Has.c u3 ?_
          rw [hasM_nat]
          refine ⟨rb, ra, ?_⟩
          exact bcd (fun h => absurd (by rw [hdec, h1, Bool.true_and]) h) fun _ => go
        · exact bcd (fun h => absurd (by rw [hdec, h1, Bool.false_and]) h) fun _ => go
    · exact chk (by omega) ⟨⟨a + 1, by omega, by omega, rfl⟩, by first | omega | (dsimp only; omega)⟩
  · refine order_Circles.c v3.rn fun p4 l4 c4 H4 s4 le4 => ?_
    have h4 := s4.len
    have hcl : (crc (clo M l2) l2).length ≤ l2 := crcT_len (M := clo M l2) (n := l2) (t := l2)
    have hsum := crc_sum hTr (n := l2)
    refine ⟨fun al i Hx => ∃ i' : Nat, i = i' ∧ i' ≤ l4 ∧ H4 = Hx ∧ al = ((((crc (clo M l2) l2).take i').map List.length).sum : Nat), fun _ i _ => (l4 - i).toNat, ⟨0, rfl, by omega, rfl, by simp⟩, ?_⟩
    rintro al i _ ⟨i, rfl, hi, rfl, hal⟩
    refine bcd (fun h => ?_) (fun h => ?_)
    · have hic : i < (crc (clo M l2) l2).length := by omega
      have hst := sum_take hic
      have hle := sum_take_le (l := crc (clo M l2) l2) (i := i + 1)
      refine s4.at rfl hic fun q lq cq hq _ _ => ?_
      have hlq := hq.len
      subst hlq
      refine chk (by omega) ?_
      refine ⟨fun j Hx => ∃ j' : Nat, j = j' ∧ j' ≤ (crc (clo M l2) l2)[i].length ∧ H4 = Hx, fun j _ => ((crc (clo M l2) l2)[i].length - j).toNat, ⟨0, rfl, by omega, rfl⟩, ?_⟩
      rintro j _ ⟨j, rfl, hj, rfl⟩
      refine s4.at rfl hic fun q lq cq hq _ _ => ?_
      have hlq := hq.len
      subst hlq
      refine bcd (fun h => ?_) (fun h => ?_)
      · have hjl : j < (crc (clo M l2) l2)[i].length := by omega
        have hm := (crc_mem hTr hic).1 (List.getElem_mem hjl)
        refine s4.at rfl hic fun q lq cq hq _ _ => ?_
        have hlq := hq.len
        subst hlq
        refine slI hq (g := fun (x : Nat) => (x : Int)) (fun _ => rfl) (by omega) (by omega) fun _ => ?_
        simp only [Int.toNat_natCast]
        refine slI (s3.le le4) (g := fun (x : Nat) => (x : Int)) (fun _ => rfl) (by omega) (by omega) fun _ => ?_
        simp only [Int.toNat_natCast]
        refine bcd (fun h => absurd (by rw [hat]; exact congrArg Int.ofNat hm.2) h) fun _ => ?_
        exact chk (by omega) ⟨⟨j + 1, by omega, by omega, by trivial⟩, by first | omega | (dsimp only; omega)⟩
      · exact chk (by omega) ⟨⟨i + 1, by omega, by omega, rfl, by rw [hst]; omega⟩, by first | omega | (dsimp only; omega)⟩
    · refine rel_Rel_Len.c (v3.le le4) ?_
      refine ⟨decide_eq_true ?_, leH3.trans le4⟩
      rw [List.take_of_length_le (by omega)] at hal
      omega

set_option maxRecDepth 100000 in
theorem orderClasses_lifted (os : Os) (started : os.Started) (H : Type) (enc : TypeId × Value → H) :
    ReturnsInHanded {} Tryd.checked os 10 .any (fun w args => (Rows.orderClassesSpec.pre enc Tryd.prog Tryd.f10 [] false w args ∧ laidMetH Tryd.prog laidTz w) ∧ sizedMet enc Tryd.prog Tryd.f10 (OpenSpec.ofChange Rows.orderClassesSpec) false w args)
      (Rows.orderClassesSpec.post enc Tryd.prog Tryd.f10 false true false false) := by
  refine returnsInHanded_of_change_and (C := Tryd.checked) (X := fun w _ => laidMetH Tryd.prog laidTz w) (fun _ _ _ hh h => h.of_heap hh) Tryd.own started (by kernel_rfl) Tryd.func10
    (ChangeSpec.witness_shaped (enc := enc) (C := Tryd.checked) (os := os) (X := fun w _ => laidMetH Tryd.prog laidTz w) false (World.doorLaid Tryd.prog 400 os) #[.int .u8 0, .slice Option.none 0 0] 8 rfl (World.shaped_of_RefB (by kernel_rfl) (by kernel_rfl)) (by kernel_rfl) (by kernel_rfl) (by kernel_rfl) (door_met os _)) ?_
  intro W base args ds gs before hval0 hW _ _ hL _
  have hval : ∀ (j : Nat) t v, Tryd.f10.params[j]? = some t → args[j]? = some v → Value.okWide Tryd.prog W .any base t v := hval0
  have hW' := hW
  obtain ⟨p, q, hA0, hV, rfl, hfz, hnd⟩ := hW
  have hA : DataW.TrodAll enc Tryd.prog W 0 (fun _ => true) true Tryd.f10.params.toList args.toList ds p := hA0
  rw [Tryd.params10] at hA hval
  obtain ⟨v0, v1, d0, d1, p0, p1, rfl, rfl, rfl, h0, h1⟩ := trodAll_two hA
  obtain ⟨x0, rfl, rfl, rfl, w0⟩ := open_int Tryd.underlying5 (hval 0 5 v0 rfl rfl) h0
  obtain ⟨q1, l1, c1, x1, rfl, s1⟩ := openSl (by decide) Tryd.underlying22 (opens_st Tryd.underlying30 (by kernel_rfl) (opensF_cons rfl (opens_int Tryd.underlying3 (by kernel_rfl)) rfl (opensF_one rfl (opens_int Tryd.underlying3 (by kernel_rfl))))) (hval 1 22 v1 rfl rfl) h1 (fun x hx => by simp [hx]) hfz
  refine (calls_true (CallH.true (orderClasses_law w0 s1.pairs s1.pairsWf (tz_of_laid hL)))).mono fun e W' ⟨he, hk⟩ => ?_
  subst he
  exact ⟨_, rfl, post_true Tryd.laidOut hW' (by kernel_rfl) rfl rfl rfl Tryd.underlying4 hk⟩

theorem orderClasses_row : Rows.OrderClassesSaid :=
  OpenClaim.holds_of_wide 10 Tryd.f10 rfl rfl rfl rfl rfl rfl rfl ⟨rfl, rfl, rfl, rfl, rfl⟩ rfl rfl rfl rfl rfl (by kernel_rfl) Tryd.func10 (by kernel_rfl)
    (of_decide_eq_true (by kernel_rfl)) (by unfold Func.isWrapper; first | (rw [if_pos (by decide +kernel)]; kernel_rfl) | (rw [if_neg (by decide +kernel)]; exact ⟨rfl, rfl⟩))
    (fun os started H enc _ => orderClasses_lifted os started H enc)

theorem orderClasses_card : Rows.OrderClassesCardSaid :=
  Claim7.holds_tied_plain_at .later [] [.data] true (true, "f14aac9e52d846e16b45683151c3010fb29280cfdf5c2d90c2c3a166c41e4a9f") false
    orderClasses_row (fun _ h => by cases h) (by kernel_rfl) (fun _ h => by cases h) orderClasses_row_tie rfl ⟨rfl, rfl⟩ (by kernel_rfl) rfl
    (fun f fn hf hfn => by
      obtain rfl : f = 10 := Option.some.inj ((show Tryd.prog.funcNamed Rows.orderClassesRow.func = some 10 by kernel_rfl).symm.trans hf) |>.symm
      obtain rfl : fn = Tryd.f10 := (Option.some.inj (Tryd.func10.symm.trans hfn)).symm
      exact ⟨by kernel_rfl, fun j t ht => by
        rw [Tryd.params10] at ht
        have hm : t ∈ [5, 22] := by
          have := Array.mem_of_getElem? ht
          simp at this
          first | (rcases this with rfl | rfl <;> simp) | simp [this]
        have hall : ([5, 22].all fun u => !Tryd.prog.wantsStandIn u) = true := by kernel_rfl
        exact (show Tryd.prog.wantsStandIn t = false by simpa using List.all_eq_true.1 hall t hm)⟩)
    (by kernel_rfl)
end Go.Proofs.YtcmooaimhloonaaDoor
