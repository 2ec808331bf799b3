/- For every input RowSets returns true, and what came in reads as it did: tied to the table of math/bits. -/
import Derived.Test.YtimgnhleaekmhaaDoorB3
import Derived.Test.YtimgnhleaekmhaaDoorBT
namespace Go.Proofs.YtimgnhleaekmhaaDoor
open Go.V
open Go.ChangeShapes Go.WideShapes Go.ChangeAt Go.RowKit Go.WideElems Go.WideMaps
/-- What mod makes of a text. -/
def modB (l : List Int) : Nat → Bool := fun j => decide (j < 50) && l.any fun x => decide (x.toNat % 50 = j)
theorem centolaw1_mod.c {p : Option Addr} {l c : Nat} {xs : List Int} {H : Hp} {K : Option Addr → Hp → Prop} (hx : Sl (Value.int .u8) H p l c xs) (bx : ∀ n ∈ xs, (Lit.int .u8 n).wf = true) (hl : xs.length ≤ 1000) (hT : Tz H)
    (hK : ∀ r q H', BR H' r q 50 (modB xs) → H r = none → H q = none → Le H H' → K (some ⟨r, 0, none⟩) H') : centolaw1_mod.C p l c H K := by
  apply centolaw1_mod.of
  have hlen := hx.len
  refine bits_New.c hT fun r q H1 u1 hr hq le1 => ?_
  rw [show (min (max (50 : Int) 0) 1000).toNat = 50 by decide] at u1
  refine ⟨fun i H' => ∃ i' : Nat, i = i' ∧ i' ≤ l ∧ Le H H' ∧ BR H' r q 50 (modB (xs.take i')), fun i _ => (l - i).toNat, ⟨0, rfl, by omega, le1, u1.congr fun j => by simp [modB]⟩, ?_⟩
  rintro i H2 ⟨i, rfl, hi, le2, u2⟩
  refine bcd (fun h => ?_) (fun h => ?_)
  · refine slI (hx.le le2) (g := id) (fun _ => rfl) (by omega) h fun hi' => ⟨by decide, ?_⟩
    have hi' : i < xs.length := by omega
    simp only [id, Int.toNat_natCast]
    have b := wf_u8 (bx _ (List.getElem_mem hi'))
    rw [show (50 : Int) = ((50 : Nat) : Int) from rfl, tmodN b.1]
    have hm : xs[i].toNat % 50 < 50 := Nat.mod_lt _ (by decide)
    refine chk (by omega) ?_
    refine bits_Row_Put.c u2 fun H3 u3 m3 _ => ?_
    refine chk (by omega) ⟨⟨i + 1, by omega, by omega, m3.le le2 (none1 hq), u3.congr fun j => ?_⟩, by first | omega | (dsimp only; omega)⟩
    rw [putB_nat, modB, modB, List.take_succ_eq_append_getElem hi', List.any_append]
    by_cases e : j = xs[i].toNat % 50
    · rw [if_pos ⟨e, by omega⟩]
      simp only [e, decide_true, List.any_cons, List.any_nil, Bool.or_false, Bool.or_true, Bool.and_true]
      exact decide_eq_true hm
    · rw [if_neg (fun g => e g.1)]
      simp [Ne.symm e]
  · obtain rfl : i = l := by omega
    rw [List.take_of_length_le (by omega)] at u2
    exact hK r q H2 u2 hr hq le2

theorem els_or_le (s t : Nat → Bool) : ∀ n, (els (fun j => s j || t j) n).length ≤ (els s n).length + (els t n).length
  | 0 => by simp [els]
  | n + 1 => by
    have ih := els_or_le s t n
    cases hs : s n <;> cases ht : t n
    · rw [els_off (s := fun j => s j || t j) (by simp [hs, ht]), els_off hs, els_off ht]; exact ih
    · rw [els_on (s := fun j => s j || t j) (by simp [ht]), els_off hs, els_on ht]; simp; omega
    · rw [els_on (s := fun j => s j || t j) (by simp [hs]), els_on hs, els_off ht]; simp; omega
    · rw [els_on (s := fun j => s j || t j) (by simp [hs]), els_on hs, els_on ht]; simp; omega

theorem rowSets_law {ap bp cp : Option Addr} {al ac bl bc' cl cc : Nat} {a b c : List Int} {H : Hp} (ha : Sl (Value.int .u8) H ap al ac a) (wa : ∀ n ∈ a, (Lit.int .u8 n).wf = true) (hb : Sl (Value.int .u8) H bp bl bc' b) (wb : ∀ n ∈ b, (Lit.int .u8 n).wf = true)
    (hc : Sl (Value.int .u8) H cp cl cc c) (wc : ∀ n ∈ c, (Lit.int .u8 n).wf = true) (hT : Tz H) : centolaw1_RowSets.C ap al ac bp bl bc' cp cl cc H fun r H' => r = true ∧ Le H H' := by
  apply centolaw1_RowSets.of
  have la := ha.len
  have lb := hb.len
  have lc := hc.len
  refine centolaw1_known.c hT fun H0 le0 => ?_
  refine bcF ?_
  refine bcd (fun _ => ⟨rfl, le0⟩) fun h1 => bcd (fun _ => ⟨rfl, le0⟩) fun h2 => bcd (fun _ => ⟨rfl, le0⟩) fun h3 => ?_
  refine centolaw1_mod.c (ha.le le0) wa (by omega) (hT.le le0) fun rx qx H1 x1 hrx hqx le1 => ?_
  have le01 := le0.trans le1
  refine centolaw1_mod.c (hb.le le01) wb (by omega) x1.tz fun ry qy H2 y2 hry hqy le2 => ?_
  have le02 := le01.trans le2
  refine centolaw1_mod.c (hc.le le02) wc (by omega) y2.tz fun rz qz H3 z3 hrz hqz le3 => ?_
  have le03 := le02.trans le3
  have x3 := (x1.le le2).le le3
  have y3 := y2.le le3
  have limx : ∀ j, 50 ≤ j → modB a j = false := fun j hj => by unfold modB; simp; omega
  have limy : ∀ j, 50 ≤ j → modB b j = false := fun j hj => by unfold modB; simp; omega
  generalize modB a = X at *
  generalize modB b = Y at *
  generalize modB c = Z at *
  refine bits_Row_Copy.c x3 fun rp qp H4 p4 hrp hqp le4 => ?_
  have le04 := le03.trans le4
  have x4 := x3.le le4
  have y4 := y3.le le4
  have z4 := z3.le le4
  refine bits_Row_Copy.c y4 fun rq qq H5 q5 hrq hqq le5 => ?_
  have le05 := le04.trans le5
  have x5 := x4.le le5
  have y5 := y4.le le5
  have z5 := z4.le le5
  have p5 := p4.le le5
  have nx : ∀ {q}, H3 q = none → rx ∉ [q] ∧ qx ∉ [q] ∧ gTab ∉ [q] ∧ ry ∉ [q] ∧ qy ∉ [q] ∧ rz ∉ [q] ∧ qz ∉ [q] := fun h =>
    ⟨by simpa using ne_of_none x3.hr h, by simpa using ne_of_none x3.hq h, by simpa using ne_of_none x3.tz.there h, by simpa using ne_of_none y3.hr h, by simpa using ne_of_none y3.hq h, by simpa using ne_of_none z3.hr h, by simpa using ne_of_none z3.hq h⟩
  have np := nx hqp
  have nq := nx (none_of_le le4 hqq)
  have spq := p4.new hrq hqq le5
  have oo : ∀ {s t : Nat → Bool}, (∀ j, 50 ≤ j → t j = false) → orB s t 50 50 = fun j => s j || t j := fun h => by
    funext j
    unfold orB
    by_cases e : j < 50
    · simp [e]
    · simp [e, h j (by omega)]
  refine bits_Row_Or.c p5 y5 np.2.2.2.2.1 fun H6 p6 m6 => ?_
  rw [oo limy] at p6
  have le06 := m6.le le05 (none1 (none_of_le le03 hqp))
  have x6 := x5.mod m6 np.1 np.2.1 np.2.2.1
  have y6 := y5.mod m6 np.2.2.2.1 np.2.2.2.2.1 np.2.2.1
  have z6 := z5.mod m6 np.2.2.2.2.2.1 np.2.2.2.2.2.2 np.2.2.1
  have q6 := q5.mod m6 spq.2.2.1 spq.2.2.2.1 np.2.2.1
  refine bits_Row_Or.c q6 x6 nq.2.1 fun H7 q7 m7 => ?_
  rw [oo limx] at q7
  have le07 := m7.le le06 (none1 (none_of_le le04 hqq))
  have x7 := x6.mod m7 nq.1 nq.2.1 nq.2.2.1
  have y7 := y6.mod m7 nq.2.2.2.1 nq.2.2.2.2.1 nq.2.2.1
  have z7 := z6.mod m7 nq.2.2.2.2.2.1 nq.2.2.2.2.2.2 nq.2.2.1
  have p7 := p6.mod m7 spq.1 spq.2.1 nq.2.2.1
  refine bits_Row_Same.c p7 q7 ?_
  have e1 : sameB (fun j => X j || Y j) (fun j => Y j || X j) 50 = true := sameB_iff.2 fun j _ => Bool.or_comm _ _
  rw [e1, decide_eq_true rfl]
  refine bcF ?_
  refine bits_Row_Or.c p7 y7 np.2.2.2.2.1 fun H8 p8 m8 => ?_
  rw [oo limy] at p8
  have p8 := p8.congr (s' := fun j => X j || Y j) fun j => by cases X j <;> cases Y j <;> rfl
  have le08 := m8.le le07 (none1 (none_of_le le03 hqp))
  have x8 := x7.mod m8 np.1 np.2.1 np.2.2.1
  have y8 := y7.mod m8 np.2.2.2.1 np.2.2.2.2.1 np.2.2.1
  have z8 := z7.mod m8 np.2.2.2.2.2.1 np.2.2.2.2.2.2 np.2.2.1
  have e2 : grewB (fun j => X j || Y j) Y 50 50 = false := by
    unfold grewB
    rw [List.any_eq_false]
    intro j _
    cases hY : Y j <;> simp [hY]
  rw [e2]
  refine bcF ?_
  refine bits_Row_Count.c p8 fun H9 le9 => ?_
  refine bits_Row_Count.c (x8.le le9) fun H10 le10 => ?_
  have l810 := le9.trans le10
  refine bits_Row_Count.c (y8.le l810) fun H11 le11 => ?_
  have l811 := l810.trans le11
  have c1 := els_len_le X 50
  have c2 := els_len_le Y 50
  have c3 := els_or_le X Y 50
  refine chk (by omega) ?_
  refine bcd (fun h => absurd h (by omega)) fun _ => ?_
  have x11 := x8.le l811
  have y11 := y8.le l811
  have z11 := z8.le l811
  have p11 := p8.le l811
  have le011 := le08.trans l811
  refine bits_Row_Copy.c p11 fun ru qu H12 u12 hru hqu le12 => ?_
  have x12 := x11.le le12
  have y12 := y11.le le12
  have z12 := z11.le le12
  have le012 := le011.trans le12
  refine bits_Row_Copy.c x12 fun rv qv H13 v13 hrv hqv le13 => ?_
  have x13 := x12.le le13
  have y13 := y12.le le13
  have z13 := z12.le le13
  have u13 := u12.le le13
  have le013 := le012.trans le13
  have su := z11.new hru hqu le12
  have sux := x11.new hru hqu le12
  have suy := y11.new hru hqu le12
  have suv := u12.new hrv hqv le13
  have sv := z12.new hrv hqv le13
  have svx := x12.new hrv hqv le13
  have svy := y12.new hrv hqv le13
  refine bits_Row_And.c u13 z13 su.1 su.2.1 fun H14 u14 m14 => ?_
  have le014 := m14.le le013 (none1 (none_of_le le011 hqu))
  have x14 := x13.mod m14 sux.1 sux.2.1 sux.2.2.2.2
  have y14 := y13.mod m14 suy.1 suy.2.1 suy.2.2.2.2
  have z14 := z13.mod m14 su.1 su.2.1 su.2.2.2.2
  have v14 := v13.mod m14 suv.2.2.1 suv.2.2.2.1 su.2.2.2.2
  refine bits_Row_And.c v14 z14 sv.1 sv.2.1 fun H15 v15 m15 => ?_
  have le015 := m15.le le014 (none1 (none_of_le le012 hqv))
  have x15 := x14.mod m15 svx.1 svx.2.1 svx.2.2.2.2
  have y15 := y14.mod m15 svy.1 svy.2.1 svy.2.2.2.2
  have z15 := z14.mod m15 sv.1 sv.2.1 sv.2.2.2.2
  have u15 := u14.mod m15 suv.1 suv.2.1 suv.2.2.2.2
  refine bits_Row_Copy.c y15 fun rw' qw H16 w16 hrw hqw le16 => ?_
  have le016 := le015.trans le16
  have swz := z15.new hrw hqw le16
  have swx := x15.new hrw hqw le16
  have swu := u15.new hrw hqw le16
  have swv := v15.new hrw hqw le16
  refine bits_Row_And.c w16 (z15.le le16) swz.1 swz.2.1 fun H17 w17 m17 => ?_
  have le017 := m17.le le016 (none1 (none_of_le le015 hqw))
  have x17 := (x15.le le16).mod m17 swx.1 swx.2.1 swx.2.2.2.2
  have u17 := (u15.le le16).mod m17 swu.1 swu.2.1 swu.2.2.2.2
  have v17 := (v15.le le16).mod m17 swv.1 swv.2.1 swv.2.2.2.2
  refine bits_Row_Or.c v17 w17 swv.2.2.2.1 fun H18 v18 m18 => ?_
  rw [oo (fun j hj => by rw [limy j hj]; rfl)] at v18
  have le018 := m18.le le017 (none1 (none_of_le le012 hqv))
  have x18 := x17.mod m18 svx.1 svx.2.1 svx.2.2.2.2
  have u18 := u17.mod m18 suv.1 suv.2.1 suv.2.2.2.2
  refine bits_Row_Copy.c x18 fun re qe H19 e19 hre hqe le19 => ?_
  have le019 := le018.trans le19
  have sex := x18.new hre hqe le19
  have seu := u18.new hre hqe le19
  have sev := v18.new hre hqe le19
  refine bits_Row_And.c e19 (x18.le le19) sex.1 sex.2.1 fun H20 e20 m20 => ?_
  have le020 := m20.le le019 (none1 (none_of_le le018 hqe))
  have x20 := (x18.le le19).mod m20 sex.1 sex.2.1 sex.2.2.2.2
  have u20 := (u18.le le19).mod m20 seu.1 seu.2.1 seu.2.2.2.2
  have v20 := (v18.le le19).mod m20 sev.1 sev.2.1 sev.2.2.2.2
  refine bits_Row_Same.c u20 v20 ?_
  have e3 : sameB (fun j => (X j || Y j) && Z j) (fun j => X j && Z j || Y j && Z j) 50 = true := sameB_iff.2 fun j _ => by cases X j <;> cases Y j <;> cases Z j <;> rfl
  rw [e3, decide_eq_true rfl]
  refine bcT ?_
  refine bits_Row_Same.c e20 x20 ?_
  have e4 : sameB (fun j => X j && X j) X 50 = true := sameB_iff.2 fun j _ => Bool.and_self _
  rw [e4, decide_eq_true rfl]
  exact ⟨rfl, le020⟩

set_option maxRecDepth 100000 in
theorem rowSets_lifted (os : Os) (started : os.Started) (H : Type) (enc : TypeId × Value → H) :
    ReturnsInHanded {} Tryd.checked os 5 .any (fun w args => (Rows.rowSetsSpec.pre enc Tryd.prog Tryd.f5 [] false w args ∧ laidMetH Tryd.prog laidTz w) ∧ sizedMet enc Tryd.prog Tryd.f5 (OpenSpec.ofChange Rows.rowSetsSpec) false w args)
      (Rows.rowSetsSpec.post enc Tryd.prog Tryd.f5 false true false false) := by
  refine returnsInHanded_of_change_and (C := Tryd.checked) (X := fun w _ => laidMetH Tryd.prog laidTz w) (fun _ _ _ hh h => h.of_heap hh) Tryd.own started (by kernel_rfl) Tryd.func5
    (ChangeSpec.witness_shaped (enc := enc) (C := Tryd.checked) (os := os) (X := fun w _ => laidMetH Tryd.prog laidTz w) false (World.doorLaid Tryd.prog 400 os) #[.slice Option.none 0 0, .slice Option.none 0 0, .slice Option.none 0 0] 8 rfl (World.shaped_of_RefB (by kernel_rfl) (by kernel_rfl)) (by kernel_rfl) (by kernel_rfl) (by kernel_rfl) (door_met os _)) ?_
  intro W base args ds gs before hval0 hW _ _ hL _
  have hval : ∀ (j : Nat) t v, Tryd.f5.params[j]? = some t → args[j]? = some v → Value.okWide Tryd.prog W .any base t v := hval0
  have hW' := hW
  obtain ⟨p, q, hA0, hV, rfl, hfz, hnd⟩ := hW
  have hA : DataW.TrodAll enc Tryd.prog W 0 (fun _ => true) true Tryd.f5.params.toList args.toList ds p := hA0
  rw [Tryd.params5] at hA hval
  obtain ⟨v0, v1, v2, d0, d1, d2, p0, p1, p2, rfl, rfl, rfl, h0, h1, h2⟩ := trodAll_three hA
  obtain ⟨q0, l0, c0, x0, rfl, s0, _, w0⟩ := open_slI Tryd.underlying40 Tryd.underlying5 (by kernel_rfl) (hval 0 40 v0 rfl rfl) h0 (fun x hx => by simp [hx]) hfz
  obtain ⟨q1, l1, c1, x1, rfl, s1, _, w1⟩ := open_slI Tryd.underlying40 Tryd.underlying5 (by kernel_rfl) (hval 1 40 v1 rfl rfl) h1 (fun x hx => by simp [hx]) hfz
  obtain ⟨q2, l2, c2, x2, rfl, s2, _, w2⟩ := open_slI Tryd.underlying40 Tryd.underlying5 (by kernel_rfl) (hval 2 40 v2 rfl rfl) h2 (fun x hx => by simp [hx]) hfz
  refine (calls_true (CallH.true (rowSets_law s0 w0 s1 w1 s2 w2 (tz_of_laid hL)))).mono fun e W' ⟨he, hk⟩ => ?_
  subst he
  exact ⟨_, rfl, post_true Tryd.laidOut hW' (by kernel_rfl) rfl rfl rfl Tryd.underlying4 hk⟩

theorem rowSets_row : Rows.RowSetsSaid :=
  OpenClaim.holds_of_wide 5 Tryd.f5 rfl rfl rfl rfl rfl rfl rfl ⟨rfl, rfl, rfl, rfl, rfl⟩ rfl rfl rfl rfl rfl (by kernel_rfl) Tryd.func5 (by kernel_rfl)
    (of_decide_eq_true (by kernel_rfl)) (by unfold Func.isWrapper; first | (rw [if_pos (by decide +kernel)]; kernel_rfl) | (rw [if_neg (by decide +kernel)]; exact ⟨rfl, rfl⟩))
    (fun os started H enc _ => rowSets_lifted os started H enc)

theorem rowSets_card : Rows.RowSetsCardSaid :=
  Claim7.holds_tied_plain_at .later [] [.data] true (true, "9e9ba44d933a7f20e0284c36fd5894acf154f0b9efcc9541d1835b2630e191a8") false
    rowSets_row (fun _ h => by cases h) (by kernel_rfl) (fun _ h => by cases h) rowSets_row_tie rfl ⟨rfl, rfl⟩ (by kernel_rfl) rfl
    (fun f fn hf hfn => by
      obtain rfl : f = 5 := Option.some.inj ((show Tryd.prog.funcNamed Rows.rowSetsRow.func = some 5 by kernel_rfl).symm.trans hf) |>.symm
      obtain rfl : fn = Tryd.f5 := (Option.some.inj (Tryd.func5.symm.trans hfn)).symm
      exact ⟨by kernel_rfl, fun j t ht => by
        rw [Tryd.params5] at ht
        have hm : t ∈ [40] := by
          have := Array.mem_of_getElem? ht
          simp at this
          simp [this]
        have hall : ([40].all fun u => !Tryd.prog.wantsStandIn u) = true := by kernel_rfl
        exact (show Tryd.prog.wantsStandIn t = false by simpa using List.all_eq_true.1 hall t hm)⟩)
    (by kernel_rfl)
end Go.Proofs.YtimgnhleaekmhaaDoor
