/- For every rows of patches and numbers, every number, StoreNeeds returns true, and what came in reads as it did: no condition. -/
import Derived.Test.YtbpbgkpkkklipaaZ4
import Derived.Test.YtbpbgkpkkklipaaRows
namespace Go.Proofs.Ytbpbgkpkkklipaa
open Go.V
open Go.ChangeShapes Go.WideShapes Go.ChangeAt Go.RowKit
theorem storeNeeds_law {q0 q1 : Option Addr} {l0 c0 l1 c1 : Nat} {x0 : List PtX} {x1 : List Int} {x : Int} {H : Hp} (s0 : ptE.rows H q0 l0 c0 x0) (s1 : Sl (Value.int .u32) H q1 l1 c1 x1) (_ : ∀ x ∈ x1, (Lit.int .u32 x).wf = true) (w2 : (Lit.int .u8 x).wf = true) :
    CallH prog centolaw17_StoreNeeds.num [.slice q0 l0 c0, .slice q1 l1 c1, .int .u8 x] H fun v H' => liftB v fun r => r = true ∧ Le H H' := by
  have wx : 0 ≤ x ∧ x ≤ 255 := by simpa [Lit.wf, IntKind.min, IntKind.max, IntKind.signed, IntKind.bits] using w2
  have hml : l0 ≤ 9223372036854775807 := Nat.le_trans s0.2.1 (Nat.le_trans s0.2.2.1 (by decide))
  have h := ptL_rep s0
  have hd : Sl fU H q1 l1 c1 x1 := s1
  clear s0 s1 w2
  generalize x0.map toPt = xs at h
  revert hd
  generalize x1 = ids
  intro hd
  show centolaw17_StoreNeeds.C q0 l0 c0 q1 l1 c1 x H fun r H' => r = true ∧ Le H H'
  apply centolaw17_StoreNeeds.of
  have el := h.1
  have ed := hd.len
  refine centolaw17_known.c fun H1 k1 => bcn (fun h => by cases h) fun _ => ?_
  refine centolaw17_fewAll.c (h.le k1) hml fun H2 k2 => bcn (fun _ => ⟨rfl, k1.trans k2⟩) fun hf => ?_
  have k12 := k1.trans k2
  have hfew : ∀ x ∈ xs, PtSm x := fun x hx => by
    unfold fewAB at hf
    rw [Bool.and_eq_true, List.all_eq_true] at hf
    exact fewB_sm (hf.1 x hx)
  refine bcd (fun _ => ⟨rfl, k12⟩) fun h40 => ?_
  have h40' : l1 ≤ 40 := by omega
  unfold centolaw17_StoreNeeds.k1
  refine store_New.c fun m b H3 hm hb k3 hS => ?_
  generalize (some (⟨b, 0, none⟩ : Addr)) = s at hS ⊢
  have k13 := k12.trans k3
  have hle : ∀ {Hx}, Mod [m] H3 Hx → Le H Hx := fun mx => Mod.le (mx.after k3) k12 (by simpa using none_of_le k12 hm)
  have hle2 : ∀ {Hx}, Mod [m] H3 Hx → Le H2 Hx := fun mx => (mx.after k3).fresh (by simpa using hm)
  refine ⟨fun t Hx => ∃ (i : Nat) (S : List Pt), t = (i : Nat) ∧ i ≤ l0 ∧ Mod [m] H3 Hx ∧ StAt Hx s m S ∧ StOk S, fun t _ => ((l0 : Int) - t).toNat, ⟨0, [], rfl, Nat.zero_le _, Mod.refl, hS, .nil⟩, ?_⟩
  rintro t Hx ⟨i, S, rfl, gi, mx, hSx, ok⟩
  refine bcd (fun hlt => ?_) fun hlt => ?_
  · have hi : i < xs.length := by omega
    refine rsP (h.le (hle mx)) rfl hi fun dp dl dc mp ml mc qp ql qc hp hl hc hx _ => store_Store_Add.c hSx hx (hfew _ (List.getElem_mem hi)) fun H4 hS4 m4 => ?_
    exact chk (by omega) ⟨⟨i + 1, _, by omega, by omega, mx.trans m4, hS4, ok.add _⟩, by dsimp only; omega⟩
  have kx := hle mx
  clear hlt hle hle2
  have hSl : S.length ≤ 1000 := Nat.le_trans ok.len (by decide)
  have hc : closedB S (sIds S) := ok.all
  refine store_Store_Need.c hSx hSl (hd.le kx) (by omega) (fun _ H5 k5 => ?_) fun ht n p1 n1 c1' H5 k5 hn hs => ?_
  · refine store_Store_IDs.c (hSx.le k5) (by omega) fun p6 n6 c6 H6 k6 hs6 _ _ => ?_
    have e6 := hs6.len
    rw [sIds_len hSx.nodup] at e6
    have := ok.len
    refine store_Store_Closed.c ((hSx.le k5).le k6) hSl hs6 (by omega) fun H7 k7 => ?_
    rw [decide_eq_true hc]
    refine bcF (bcd (fun _ => bcd (fun _ => ⟨decide_eq_true rfl, ((kx.trans k5).trans k6).trans k7⟩) fun h => absurd rfl h) fun h => absurd (by decide) h)
  · have e1 := hs.len
    refine store_Store_IDs.c (hSx.le k5) (by omega) fun p6 n6 c6 H6 k6 hs6 _ _ => ?_
    have e6 := hs6.len
    rw [sIds_len hSx.nodup] at e6
    have := ok.len
    refine store_Store_Closed.c ((hSx.le k5).le k6) hSl hs6 (by omega) fun H7 k7 => ?_
    rw [decide_eq_true hc]
    refine bcF (bcd (fun h => absurd rfl h) fun _ => ?_)
    have k57 := (k5.trans k6).trans k7
    have hnl : n.length ≤ 60 := by
      have := nodup_len (lt_nodup hn.1) (zs := S.map (·.id)) fun k hk => by
        have := ok.reach ht ((hn.2 k).1 hk)
        rw [sGet_is, decide_eq_true_eq] at this; exact this
      rw [List.length_map] at this
      omega
    have hS7 := hSx.le k57
    have hs7 := hs.le (k6.trans k7)
    refine ⟨fun t Hy => ∃ i : Nat, t = (i : Nat) ∧ i ≤ l1 ∧ Le H7 Hy, fun t _ => ((l1 : Int) - t).toNat, ⟨0, rfl, Nat.zero_le _, Le.refl _⟩, ?_⟩
    rintro t Hy ⟨i, rfl, gi, ly⟩
    have k7y := k57.trans ly
    refine bcd (fun hlt => ?_) fun hlt => ?_
    · have hi : i < ids.length := by omega
      refine slI (g := fun x => x) ((hd.le kx).le k7y) (fun _ => rfl) (by omega) (by omega) fun _ => ?_
      simp only [Int.toNat_natCast]
      refine centoref12_Has.c (hs7.le ly) (by omega) ?_
      rw [decide_eq_true ((hn.2 _).2 (.base (List.getElem_mem hi)))]
      exact bcF (chk (by omega) ⟨⟨i + 1, by omega, by omega, ly⟩, by first | omega | (dsimp only; omega)⟩)
    refine store_Store_Closed.c (hS7.le ly) hSl (hs7.le ly) (by omega) fun H8 k8 => ?_
    rw [decide_eq_true (ok.need ht hn)]
    refine bcF ?_
    have kz := (kx.trans k7y).trans k8
    have ky8 := k7y.trans k8
    unfold centolaw17_StoreNeeds.k2
    refine bcd (fun h0 => ?_) fun h0 => ?_
    · refine bcd (fun _ => ?_) fun h => absurd h0 h
      have hn0 : n = [] := List.length_eq_zero_iff.1 (by omega)
      have : ids = [] := by
        cases ids with
        | nil => rfl
        | cons k r =>
          have := (hn.2 k).2 (.base (by simp))
          rw [hn0] at this; cases this
      subst this
      exact ⟨decide_eq_true (by rw [ed]; rfl), kz⟩
    have hpos : 0 < n.length := by omega
    unfold centolaw17_StoreNeeds.k3
    refine chk (by omega) ⟨h0, ?_⟩
    have hs8 := (hs7.le ly).le k8
    have ex : Int.tmod x (n1 : Int) = ((x.toNat % n1 : Nat) : Int) := by
      rw [Int.tmod_eq_emod_of_nonneg wx.1, Int.natCast_emod, Int.toNat_of_nonneg wx.1]
    have hj : x.toNat % n1 < n1 := Nat.mod_lt _ (by omega)
    generalize x.toNat % n1 = j at ex hj
    rw [ex]
    refine slI (g := fun x => x) hs8 (fun _ => rfl) (by omega) (by omega) fun hj' => ?_
    simp only [Int.toNat_natCast] at hj' ⊢
    have hdn : n[j] ∈ n := List.getElem_mem hj'
    refine ⟨fun p l c t Hz => ∃ i : Nat, t = (i : Nat) ∧ i ≤ n1 ∧ Le H8 Hz ∧ ∃ ys : List Int, Buf 1 H8 Hz p l c (ys.map fU) ∧ ys.length ≤ i, fun _ _ _ t _ => ((n1 : Int) - t).toNat, ⟨0, rfl, Nat.zero_le _, Le.refl _, [], Buf.none, Nat.zero_le _⟩, ?_⟩
    rintro p l c t Hz ⟨i, rfl, gi, lz, ys, hB, hy⟩
    have elen : l = ys.length := by have := hB.1; simpa using this
    refine bcd (fun hlt => ?_) fun hlt => ?_
    · have hi : i < n.length := by omega
      refine slI (g := fun x => x) (hs8.le lz) (fun _ => rfl) (by omega) (by omega) fun _ => ?_
      simp only [Int.toNat_natCast]
      refine bcd (fun _ => ?_) fun _ => chk (by omega) ⟨⟨i + 1, by omega, by omega, lz, ys, hB, by omega⟩, by first | omega | (dsimp only; omega)⟩
      refine slI (g := fun x => x) (hs8.le lz) (fun _ => rfl) (by omega) (by omega) fun _ => ?_
      simp only [Int.toNat_natCast]
      refine hB.pushS (te := te_uint32) rfl (by decide) rfl (by decide) rfl rfl (by simp [te_uint32]; omega) (fun p' c' H9 hB9 _ m9 => ?_) lz.was
      refine chk (by omega) ⟨⟨i + 1, by omega, by omega, m9.le lz fun b hb => hB.fr b 0 (blkL_mem hB.zero hb), ys ++ [n[i]], by simpa using hB9, by simp; omega⟩, by first | omega | (dsimp only; omega)⟩
    have kf := kz.trans lz
    refine centoref12_Has.c ((hd.le kz).le lz) (by omega) (bcd (fun _ => ⟨by trivial, kf⟩) fun hnd => ?_)
    refine store_Store_Closed.c ((hSx.le ky8).le lz) hSl hB.sl (by omega) fun H9 k9 => bcn (fun _ => ⟨by trivial, kf.trans k9⟩) fun _ => ?_
    refine store_Store_Users.c (((hSx.le ky8).le lz).le k9) ((hs8.le lz).le k9) (by omega) fun p10 n10 c10 H10 k10 hs10 => ?_
    have e10 := hs10.len
    have hu := needs_user hn hdn hnd
    exact ⟨decide_eq_true (by omega), (kf.trans k9).trans k10⟩

theorem storeNeeds_own : ownKnob Try.prog.godebug = none := by kernel_rfl
theorem storeNeeds_laid : laidOutB Try.prog = true := by kernel_rfl
set_option maxRecDepth 100000 in
theorem storeNeeds_lifted (os : Os) (started : os.Started) (H : Type) (enc : TypeId × Value → H) :
    ReturnsInHanded {} Try.checked os 3 .any (Rows.storeNeedsSpec.pre6 enc Try.prog Try.f3 Rows.storeNeedsRow.domain false) (Rows.storeNeedsSpec.post enc Try.prog Try.f3 false true false false) := by
  refine returnsInHanded_of_change (C := Try.checked) storeNeeds_own started (by kernel_rfl) Try.func3
    (ChangeSpec.witness6 (enc := enc) (C := Try.checked) false ⟨#[], #[.slice Option.none 0 0, .slice Option.none 0 0, .int .u8 0], []⟩ 8 (by kernel_rfl) (by kernel_rfl) (by kernel_rfl) (by kernel_rfl)) ?_
  intro W base args ds gs before hval0 hW hcnd _
  have hval : ∀ (j : Nat) t v, Try.f3.params[j]? = some t → args[j]? = some v → Value.okWide Try.prog W .any base t v := hval0
  have hW' := hW
  obtain ⟨p, q, hA0, hV, rfl, hfz, hnd⟩ := hW
  have hA : DataW.TrodAll enc Try.prog W 0 (fun _ => true) true Try.f3.params.toList args.toList ds p := hA0
  rw [Try.params3] at hA hval
  obtain ⟨v0, v1, v2, d0, d1, d2, p0, p1, p2, rfl, rfl, rfl, h0, h1, h2⟩ := trodAll_three hA
  obtain ⟨q0, l0, c0, x0, rfl, s0⟩ := openSl (by decide) Try.underlying22 (opens_st Try.underlying34 (by kernel_rfl) (opensF_cons rfl (opens_int Try.underlying30 (by kernel_rfl)) rfl (opensF_cons rfl (opens_sl (by decide) Try.underlying23 (by kernel_rfl) (opens_int Try.underlying30 (by kernel_rfl))) rfl (opensF_cons rfl (opens_sl (by decide) Try.underlying31 (by kernel_rfl) (opens_str Try.underlying9 (by kernel_rfl))) rfl (opensF_cons rfl (opens_sl (by decide) Try.underlying31 (by kernel_rfl) (opens_str Try.underlying9 (by kernel_rfl))) rfl (opensF_one rfl (opens_sl (by decide) Try.underlying32 (by kernel_rfl) (opens_st Try.underlying67 (by kernel_rfl) (opensF_cons rfl (opens_str Try.underlying9 (by kernel_rfl)) rfl (opensF_cons rfl (opens_sl (by decide) Try.underlying31 (by kernel_rfl) (opens_str Try.underlying9 (by kernel_rfl))) rfl (opensF_cons rfl (opens_sl (by decide) Try.underlying64 (by kernel_rfl) (opens_st Try.underlying83 (by kernel_rfl) (opensF_cons rfl (opens_st Try.underlying81 (by kernel_rfl) (opensF_cons rfl (opens_int Try.underlying30 (by kernel_rfl)) rfl (opensF_one rfl (opens_int Try.underlying3 (by kernel_rfl))))) rfl (opensF_one rfl (opens_st Try.underlying81 (by kernel_rfl) (opensF_cons rfl (opens_int Try.underlying30 (by kernel_rfl)) rfl (opensF_one rfl (opens_int Try.underlying3 (by kernel_rfl))))))))) rfl (opensF_one rfl (opens_sl (by decide) Try.underlying65 (by kernel_rfl) (opens_st Try.underlying81 (by kernel_rfl) (opensF_cons rfl (opens_int Try.underlying30 (by kernel_rfl)) rfl (opensF_one rfl (opens_int Try.underlying3 (by kernel_rfl)))))))))))))))))) (hval 0 22 v0 rfl rfl) h0 (fun x hx => by simp [hx]) hfz
  obtain ⟨q1, l1, c1, x1, rfl, s1⟩ := openSl (by decide) Try.underlying23 (opens_int Try.underlying30 (by kernel_rfl)) (hval 1 23 v1 rfl rfl) h1 (fun x hx => by simp [hx]) hfz
  obtain ⟨x2, rfl, rfl, rfl, w2⟩ := open_int Try.underlying5 (hval 2 5 v2 rfl rfl) h2
  refine (calls_true (storeNeeds_law s0 s1.ints s1.wf w2) Try.func3 (by kernel_rfl)).mono fun e W' ⟨he, hk⟩ => ?_
  subst he
  exact ⟨_, rfl, post_true storeNeeds_laid hW' (by kernel_rfl) rfl rfl rfl Try.underlying4 hk⟩

theorem storeNeeds_holds : Rows.StoreNeedsSaid :=
  OpenClaim.holds_of_wide 3 Try.f3 rfl rfl rfl rfl rfl rfl rfl ⟨rfl, rfl, rfl, rfl, rfl⟩ rfl rfl rfl rfl rfl (by kernel_rfl) Try.func3 (by kernel_rfl)
    (of_decide_eq_true (by kernel_rfl)) (by unfold Func.isWrapper; first | (rw [if_pos (by decide +kernel)]; kernel_rfl) | (rw [if_neg (by decide +kernel)]; exact ⟨rfl, rfl⟩))
    (fun os started H enc _ => storeNeeds_lifted os started H enc)

end Go.Proofs.Ytbpbgkpkkklipaa
