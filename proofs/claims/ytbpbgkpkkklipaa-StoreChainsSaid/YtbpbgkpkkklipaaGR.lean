/- For every two numbers StoreChains returns true: no condition. -/
import Derived.Test.YtbpbgkpkkklipaaZ4
import Derived.Test.YtbpbgkpkkklipaaRows
namespace Go.Proofs.Ytbpbgkpkkklipaa
open Go.V
open Go.ChangeShapes Go.WideShapes Go.ChangeAt Go.RowKit
def ch (j : Nat) : Pt := ⟨(j + 1 : Nat), if j = 0 then [] else [(j : Nat)], [], [], []⟩
def chS (n : Nat) : List Pt := (List.range n).map ch
theorem chS_len (n : Nat) : (chS n).length = n := by simp [chS]
theorem chS_succ (n : Nat) : chS (n + 1) = chS n ++ [ch n] := by simp [chS, List.range_succ]
theorem chS_get : ∀ (n j : Nat), sGet (chS n) ((j + 1 : Nat) : Int) = if j < n then some (ch j) else none
  | 0, j => rfl
  | n + 1, j => by
    rw [chS_succ, sGet_snoc, chS_get n j]
    by_cases h : j < n
    · rw [if_pos h]
      simp only
      rw [if_pos (show j < n + 1 by omega)]
    · rw [if_neg h]
      simp only
      by_cases e : j = n
      · subst e; rw [if_pos (show (ch j).id = ((j + 1 : Nat) : Int) from rfl), if_pos (show j < j + 1 by omega)]
      · rw [if_neg (show ¬ (ch n).id = ((j + 1 : Nat) : Int) by simp [ch]; omega), if_neg (show ¬ j < n + 1 by omega)]
theorem ch_is (j : Nat) : isB (ch j) = true := by
  unfold ch
  by_cases h : j = 0
  · subst h; decide
  · rw [if_neg h]
    have e : isB ⟨(j + 1 : Nat), [(j : Nat)], [], [], []⟩ = (decide (¬ ((j + 1 : Nat) : Int) = 0) && (true && (true && (true && ((true && (true && (!decide ((0 : Int) ∈ [((j : Nat) : Int)]) && (!decide (((j + 1 : Nat) : Int) ∈ [((j : Nat) : Int)]) && true)))) && (true && true)))))) := rfl
    rw [e, decide_eq_true (by omega), decide_eq_false (by simp; omega), decide_eq_false (by simp; omega)]
    rfl
theorem ch_sm (j : Nat) : PtSm (ch j) := smP (by split <;> simp) (by decide) (by simp)
theorem ch_add {n : Nat} (h : n < 60) : sAdd (chS n) (ch n) = (0, chS (n + 1)) := by
  unfold sAdd
  rw [ch_is, if_neg (by decide), show (ch n).id = ((n + 1 : Nat) : Int) from rfl, chS_get, if_neg (by omega)]
  simp only
  have hd : ((ch n).deps.all fun d => (sGet (chS n) d).isSome) = true := by
    unfold ch
    by_cases h0 : n = 0
    · subst h0; rfl
    · simp only [if_neg h0, List.all_cons, List.all_nil, Bool.and_true]
      obtain ⟨k, rfl⟩ := Nat.exists_eq_succ_of_ne_zero h0
      rw [show ((k.succ : Nat) : Int) = ((k + 1 : Nat) : Int) from rfl, chS_get, if_pos (by omega)]; rfl
  rw [hd, if_neg (by decide), if_neg (by rw [chS_len]; omega), chS_succ]
theorem ch_deps {n j : Nat} (h : j < n) : depsOf (chS n) ((j + 1 : Nat) : Int) = if j = 0 then [] else [((j : Nat) : Int)] := by
  unfold depsOf
  rw [chS_get, if_pos h]; rfl
def upto (x : Nat) : List Int := (List.range x).map fun j => ((j + 1 : Nat) : Int)
theorem upto_mem {x : Nat} {k : Int} : k ∈ upto x ↔ 1 ≤ k ∧ k ≤ x := by
  unfold upto
  rw [List.mem_map]
  constructor
  · rintro ⟨j, hj, rfl⟩
    have := List.mem_range.1 hj
    omega
  · rintro ⟨h1, h2⟩
    exact ⟨k.toNat - 1, List.mem_range.2 (by omega), by omega⟩
theorem upto_pw (x : Nat) : (upto x).Pairwise fun a b => Sort.ltInt a b = true := by
  unfold upto
  rw [List.pairwise_map]
  refine List.pairwise_lt_range.imp fun h => ?_
  unfold Sort.ltInt
  rw [decide_eq_true_eq]; omega
theorem ch_ids (n : Nat) : sIds (chS n) = upto n := by
  unfold sIds
  symm
  refine setL_eq (upto_pw n) fun k => ?_
  unfold chS upto
  rw [List.map_map]
  rfl
theorem ch_need {n x : Nat} (h1 : 0 < x) (hx : x ≤ n) : NeedOf (chS n) [(x : Nat)] (upto x) := by
  refine needOf_of (upto_pw x) (fun k hk => ?_) (fun k hk d hd => ?_) fun k hk => ?_
  · simp at hk; subst hk; exact upto_mem.2 (by omega)
  · have hb := upto_mem.1 hk
    obtain ⟨j, rfl⟩ : ∃ j : Nat, k = ((j + 1 : Nat) : Int) := ⟨k.toNat - 1, by omega⟩
    rw [ch_deps (by omega)] at hd
    split at hd
    · cases hd
    · simp at hd; subst hd; exact upto_mem.2 (by omega)
  · have hb := upto_mem.1 hk
    have key : ∀ t : Nat, t < x → Reach (chS n) [(x : Nat)] ((x - t : Nat) : Int) := fun t => by
      induction t with
      | zero => intro _; exact .base (by simp)
      | succ t ih =>
        intro ht
        have := ih (by omega)
        refine this.dep ?_
        have e : ((x - t : Nat) : Int) = ((x - t - 1 + 1 : Nat) : Int) := by omega
        rw [e, ch_deps (by omega), if_neg (by omega)]
        simp
        omega
    have := key (x - k.toNat) (by omega)
    rw [show ((x - (x - k.toNat) : Nat) : Int) = k by omega] at this
    exact this
theorem ch_users {n x : Nat} (h1 : 0 < x) (hx : x ≤ n) : usersL (chS n) (upto n) (x : Nat) = if x = n then [] else [((x + 1 : Nat) : Int)] := by
  have hm : ∀ y, y ∈ usersL (chS n) (upto n) (x : Nat) ↔ y = ((x + 1 : Nat) : Int) ∧ x ≠ n := fun y => by
    unfold usersL
    rw [List.mem_filter, setL_mem, upto_mem, decide_eq_true_eq]
    constructor
    · rintro ⟨hb, hd⟩
      obtain ⟨j, rfl⟩ : ∃ j : Nat, y = ((j + 1 : Nat) : Int) := ⟨y.toNat - 1, by omega⟩
      rw [ch_deps (by omega)] at hd
      split at hd
      · cases hd
      · simp at hd; omega
    · rintro ⟨rfl, hne⟩
      refine ⟨by omega, ?_⟩
      rw [ch_deps (by omega), if_neg (by omega)]; simp
  refine sorted_lt_mem ltInt_irr (fun _ _ => ltInt_anti) ltInt_tr ((setL_pw _).filter _) (by split <;> simp) fun y => ?_
  rw [hm y]
  split
  · rename_i e; simp [e]
  · rename_i e; simp [e]
theorem put1 {H : Hp} {b : Nat} {id : Int} {dp mp qp hp : Option Addr} {dl dc ml mc ql qc hl hc : Nat} (h : D5 H b id dp dl dc mp ml mc qp ql qc hp hl hc) {dp' : Option Addr} {dl' dc' : Nat} {F : Hp → Prop}
    (hF : ∀ H', D5 H' b id dp' dl' dc' mp ml mc qp ql qc hp hl hc → Mod [b] H H' → F H') : ST H b 1 (.slice dp' dl' dc') F := by
  refine st h.2.1 (hF _ ⟨?_, rd_wr_self h.2.1, ?_, ?_, ?_⟩ (Mod.refl.wr (.inl (by simp))))
  · rw [rd_wr_off (by decide)]; exact h.1
  · rw [rd_wr_off (by decide)]; exact h.2.2.1
  · rw [rd_wr_off (by decide)]; exact h.2.2.2.1
  · rw [rd_wr_off (by decide)]; exact h.2.2.2.2
theorem storeChains_law {x y : Int} {H : Hp} (w0 : (Lit.int .u8 x).wf = true) (w1 : (Lit.int .u8 y).wf = true) :
    CallH prog centolaw17_StoreChains.num [.int .u8 x, .int .u8 y] H fun v H' => liftB v fun r => r = true ∧ Le H H' := by
  have wx : 0 ≤ x ∧ x ≤ 255 := by simpa [Lit.wf, IntKind.min, IntKind.max, IntKind.signed, IntKind.bits] using w0
  have wy : 0 ≤ y ∧ y ≤ 255 := by simpa [Lit.wf, IntKind.min, IntKind.max, IntKind.signed, IntKind.bits] using w1
  clear w0 w1
  show centolaw17_StoreChains.C x y H fun r H' => r = true ∧ Le H H'
  apply centolaw17_StoreChains.of
  refine centolaw17_known.c fun H1 l1 => bcn (fun h => by cases h) fun _ => ⟨by decide, ?_⟩
  obtain ⟨k, hk1, hk2, ek⟩ : ∃ k : Nat, 0 < k ∧ k ≤ 20 ∧ Int.tmod x 20 + 1 = (k : Int) := by
    refine ⟨x.toNat % 20 + 1, by omega, by omega, ?_⟩
    rw [Int.tmod_eq_emod_of_nonneg wx.1]; omega
  refine chk (by omega) (chk (by omega) ?_)
  rw [ek]
  refine store_New.c fun m b H2 hm hb l2 hS => ?_
  generalize (some (⟨b, 0, none⟩ : Addr)) = s at hS ⊢
  have hm0 : H m = none := none_of_le l1 hm
  refine ⟨fun t Hx => ∃ i : Nat, t = (i + 1 : Nat) ∧ i ≤ k ∧ Mod [m] H2 Hx ∧ StAt Hx s m (chS i) ∧ StOk (chS i), fun t _ => (k + 1 - t).toNat, ⟨0, rfl, by omega, Mod.refl, hS, .nil⟩, ?_⟩
  rintro t Hx ⟨i, rfl, gi, mx, hSx, ok⟩
  refine bcd (fun hle => ?_) fun hle => ?_
  · have hi : i < k := by omega
    intro q hq
    have l3 := Le.upd (c := [.int .u32 (0 : Int), .slice none 0 0, .slice none 0 0, .slice none 0 0, .slice none 0 0]) hq
    have d3 := D5.new (H := Hx) (b := q) (id := (0 : Int)) (dp := none) (dl := 0) (dc := 0) (mp := none) (ml := 0) (mc := 0) (qp := none) (ql := 0) (qc := 0) (hp := none) (hl := 0) (hc := 0)
    revert l3 d3
    generalize upd Hx q [.int .u32 (0 : Int), .slice none 0 0, .slice none 0 0, .slice none 0 0, .slice none 0 0] = H3
    intro l3 d3
    refine put5 d3 fun H4 d4 m4 _ => ?_
    have l4 : Le Hx H4 := m4.le l3 (by simpa using hq)
    rw [u32w (by omega)] at d4
    have next : ∀ H5 p l c, Le Hx H5 → D5 H5 q ((i + 1 : Nat) : Int) p l c none 0 0 none 0 0 none 0 0 → Sl fU H5 p l c (ch i).deps → centolaw17_StoreChains.k1 Hx (fun t Hx => ∃ i : Nat, t = (i + 1 : Nat) ∧ i ≤ k ∧ Mod [m] H2 Hx ∧ StAt Hx s m (chS i) ∧ StOk (chS i)) (fun r H' => r = true ∧ Le H H') q ((i + 1 : Nat) : Int) (fun t _ => (k + 1 - t).toNat) s H5 := fun H5 p l c l5 d5 hs => by
      unfold centolaw17_StoreChains.k1
      refine D5.get d5 (store_Store_Add.c (hSx.le l5) (x := ch i) (ptP hs Sl.nil) (ch_sm i) fun H6 hS6 m6 => ?_)
      have ok6 := ok.add (ch i)
      rw [ch_add (by omega)] at hS6 ok6 ⊢
      exact bcd (fun h => absurd rfl h) fun _ => chk (by omega) ⟨⟨i + 1, by omega, by omega, (mx.andLe l5).trans m6, hS6, ok6⟩, by first | omega | (dsimp only; omega)⟩
    refine bcd (fun h1 => chk (by omega) fun q2 hq2 => ?_) fun h1 => ?_
    · have l5 := Le.upd (c := [.int .u32 (IntKind.wrap .u32 (((i + 1 : Nat) : Int) - 1))]) hq2
      have r5 : rd (upd H4 q2 [.int .u32 (IntKind.wrap .u32 (((i + 1 : Nat) : Int) - 1))]) q2 0 = some (fU (i : Nat)) := by
        rw [u32w (by omega), rd_upd_self]
        rw [show (((i + 1 : Nat) : Int) - 1) = (i : Nat) by omega]; rfl
      revert l5 r5
      generalize upd H4 q2 [.int .u32 (IntKind.wrap .u32 (((i + 1 : Nat) : Int) - 1))] = H5
      intro l5 r5
      have hne : q2 ≠ q := by rintro rfl; exact d4.there hq2
      refine put1 (d4.le l5) fun H6 d6 m6 => next H6 _ _ _ (m6.le (l4.trans l5) (by simpa using hq)) d6 ?_
      have : (ch i).deps = [((i : Nat) : Int)] := by unfold ch; rw [if_neg (by omega)]
      rw [this]
      exact sl1 (m6.rd (by simpa using hne) r5)
    · refine next H4 _ _ _ l4 d4 ?_
      have : (ch i).deps = [] := by unfold ch; rw [if_pos (by omega)]
      rw [this]; exact Sl.nil
  have eik : i = k := by omega
  subst eik
  obtain ⟨z, hz1, hz2, ez⟩ : ∃ z : Nat, 0 < z ∧ z ≤ i ∧ IntKind.wrap .u32 (Int.tmod y (i : Int)) + 1 = (z : Int) := by
    have e : Int.tmod y (i : Int) = ((y.toNat % i : Nat) : Int) := by
      rw [Int.tmod_eq_emod_of_nonneg wy.1, Int.natCast_emod, Int.toNat_of_nonneg wy.1]
    have := Nat.mod_lt y.toNat hk1
    exact ⟨y.toNat % i + 1, by omega, by omega, by rw [e, u32w (by omega)]; omega⟩
  refine chk (by omega) ⟨by omega, ?_⟩
  rw [ez]
  refine ⟨by simp [IntKind.min, IntKind.max, IntKind.signed, IntKind.bits]; omega, fun b3 h3 => ?_⟩
  have l3 := Le.upd (c := [.int .u32 (z : Int)]) h3
  have r3 : rd (upd Hx b3 [.int .u32 (z : Int)]) b3 0 = some (fU z) := by rw [rd_upd_self]; rfl
  revert l3 r3
  generalize upd Hx b3 [.int .u32 (z : Int)] = H3
  intro l3 r3
  have hth : thereB (chS i) [(z : Int)] = true := by
    unfold thereB
    simp only [List.all_cons, List.all_nil, Bool.and_true]
    rw [show (z : Int) = ((z - 1 + 1 : Nat) : Int) by omega, chS_get, if_pos (by omega)]; rfl
  have hSl : (chS i).length ≤ 1000 := by rw [chS_len]; omega
  refine store_Store_Need.c (hSx.le l3) hSl (sl1 r3) (by decide) (fun h => by rw [hth] at h; cases h) fun _ n p4 n4 c4 H4 l4 hn hs4 => ?_
  rw [needOf_uniq hn (ch_need hz1 hz2)] at hs4
  have e4 := hs4.len
  have el4 : (upto z).length = z := by simp [upto]
  refine store_Store_IDs.c ((hSx.le l3).le l4) (by omega) fun p5 n5 c5 H5 l5 hs5 _ _ => ?_
  rw [ch_ids] at hs5
  have e5 := hs5.len
  have el5 : (upto i).length = i := by simp [upto]
  refine store_Store_Users.c (((hSx.le l3).le l4).le l5) hs5 (by omega) fun p6 n6 c6 H6 l6 hs6 => ?_
  rw [ch_users hz1 hz2] at hs6
  have e6 := hs6.len
  have l36 := ((l3.trans l4).trans l5).trans l6
  have hfin : ∀ {H'}, Le Hx H' → Le H H' := fun h => (Mod.le mx (l1.trans l2) (by simpa using hm0)).trans h
  refine bcd (fun h => absurd rfl h) fun _ => chk (by omega) (bcd (fun h => absurd (by omega) h) fun _ => ?_)
  unfold centolaw17_StoreChains.k2
  refine chk (by omega) (bcd (fun e => ?_) fun e => ?_)
  · rw [if_pos (by omega)] at e6
    exact ⟨decide_eq_true (by rw [e6]; rfl), hfin l36⟩
  rw [if_neg (by omega)] at hs6 e6
  have hn6 : n6 = 1 := e6
  subst hn6
  refine bcd (fun _ => ?_) fun h => absurd rfl h
  refine slI (g := fun x => x) hs6 (fun _ => rfl) (by decide) (by decide) fun _ => ?_
  refine ⟨by simp [IntKind.min, IntKind.max, IntKind.signed, IntKind.bits]; omega, bcd (fun _ => ?_) fun h => absurd (by simp) h⟩
  refine store_Store_Closed.c (hSx.le l36) hSl ((hs4.le l5).le l6) (by omega) fun H7 l7 => ?_
  have hn' := hn
  rw [needOf_uniq hn (ch_need hz1 hz2)] at hn'
  rw [decide_eq_true (ok.need hth hn')]
  refine bcT ⟨by simp [IntKind.min, IntKind.max, IntKind.signed, IntKind.bits]; omega, fun b8 h8 => ?_⟩
  have l8 := Le.upd (c := [.int .u32 ((z : Int) + 1)]) h8
  have r8 : rd (upd H7 b8 [.int .u32 ((z : Int) + 1)]) b8 0 = some (fU ((z : Int) + 1)) := by rw [rd_upd_self]; rfl
  revert l8 r8
  generalize upd H7 b8 [.int .u32 ((z : Int) + 1)] = H8
  intro l8 r8
  refine store_Store_Closed.c (((hSx.le l36).le l7).le l8) hSl (sl1 r8) (by decide) fun H9 l9 => ?_
  have hnc : ¬ closedB (chS i) [(z : Int) + 1] := fun h => by
    have := h.2.2 ((z : Int) + 1) (by simp) (z : Int) (by
      rw [show (z : Int) + 1 = ((z + 1 : Nat) : Int) by omega, ch_deps (by omega), if_neg (by omega)]; simp)
    simp at this
    omega
  rw [decide_eq_false hnc]
  exact ⟨rfl, hfin (((l36.trans l7).trans l8).trans l9)⟩

theorem storeChains_own : ownKnob Try.prog.godebug = none := by kernel_rfl
theorem storeChains_laid : laidOutB Try.prog = true := by kernel_rfl
set_option maxRecDepth 100000 in
theorem storeChains_lifted (os : Os) (started : os.Started) (H : Type) (enc : TypeId × Value → H) :
    ReturnsInHanded {} Try.checked os 4 .any (Rows.storeChainsSpec.pre6 enc Try.prog Try.f4 Rows.storeChainsRow.domain false) (Rows.storeChainsSpec.post enc Try.prog Try.f4 false true false false) := by
  refine returnsInHanded_of_change (C := Try.checked) storeChains_own started (by kernel_rfl) Try.func4
    (ChangeSpec.witness6 (enc := enc) (C := Try.checked) false ⟨#[], #[.int .u8 0, .int .u8 0], []⟩ 8 (by kernel_rfl) (by kernel_rfl) (by kernel_rfl) (by kernel_rfl)) ?_
  intro W base args ds gs before hval0 hW hcnd _
  have hval : ∀ (j : Nat) t v, Try.f4.params[j]? = some t → args[j]? = some v → Value.okWide Try.prog W .any base t v := hval0
  have hW' := hW
  obtain ⟨p, q, hA0, hV, rfl, hfz, hnd⟩ := hW
  have hA : DataW.TrodAll enc Try.prog W 0 (fun _ => true) true Try.f4.params.toList args.toList ds p := hA0
  rw [Try.params4] at hA hval
  obtain ⟨v0, v1, d0, d1, p0, p1, rfl, rfl, rfl, h0, h1⟩ := trodAll_two hA
  obtain ⟨x0, rfl, rfl, rfl, w0⟩ := open_int Try.underlying5 (hval 0 5 v0 rfl rfl) h0
  obtain ⟨x1, rfl, rfl, rfl, w1⟩ := open_int Try.underlying5 (hval 1 5 v1 rfl rfl) h1
  refine (calls_true (storeChains_law w0 w1) Try.func4 (by kernel_rfl)).mono fun e W' ⟨he, hk⟩ => ?_
  subst he
  exact ⟨_, rfl, post_true storeChains_laid hW' (by kernel_rfl) rfl rfl rfl Try.underlying4 hk⟩

theorem storeChains_holds : Rows.StoreChainsSaid :=
  OpenClaim.holds_of_wide 4 Try.f4 rfl rfl rfl rfl rfl rfl rfl ⟨rfl, rfl, rfl, rfl, rfl⟩ rfl rfl rfl rfl rfl (by kernel_rfl) Try.func4 (by kernel_rfl)
    (of_decide_eq_true (by kernel_rfl)) (by unfold Func.isWrapper; first | (rw [if_pos (by decide +kernel)]; kernel_rfl) | (rw [if_neg (by decide +kernel)]; exact ⟨rfl, rfl⟩))
    (fun os started H enc _ => storeChains_lifted os started H enc)

end Go.Proofs.Ytbpbgkpkkklipaa
