/- For every numbers ViewChains returns true: no condition. -/
import Derived.Test.YteijgmmjgbgffaaDoorZ5
namespace Go.Proofs.YteijgmmjgbgffaaDoor
open Go.V
open Go.ChangeShapes Go.WideShapes Go.ChangeAt Go.RowKit
def nbP (k n i : Nat) : List (Int × Int) := ((List.range i).filter fun t => decide (t + 1 < k ∨ k ≤ t ∧ t + 1 < n)).map fun (t : Nat) => ((t : Int), (t : Int) + 1)
theorem nbP_on {k n i : Nat} (h : i + 1 < k ∨ k ≤ i ∧ i + 1 < n) : nbP k n (i + 1) = nbP k n i ++ [((i : Int), (i : Int) + 1)] := by
  unfold nbP; rw [List.range_succ, List.filter_append, List.filter_cons_of_pos (by simpa using h), List.map_append]; rfl
theorem nbP_off {k n i : Nat} (h : ¬ (i + 1 < k ∨ k ≤ i ∧ i + 1 < n)) : nbP k n (i + 1) = nbP k n i := by
  unfold nbP; rw [List.range_succ, List.filter_append, List.filter_cons_of_neg (by simpa using h), List.map_append]; simp
theorem nbP_len {k n i : Nat} : (nbP k n i).length ≤ i := by
  unfold nbP; rw [List.length_map]; exact Nat.le_trans (List.length_filter_le _ _) (by simp)
def twoM (k n : Nat) : Nat → Nat → Bool := fun x y => decide (x < y ∧ y < n ∧ (y < k ∨ k ≤ x))
theorem twoM_tr (k n : Nat) : Tr (twoM k n) := fun x y z h1 h2 => by
  unfold twoM at *
  rw [decide_eq_true_eq] at *; omega
theorem ofM_nb {k n x y : Nat} : ofM (nbP k n n) n x y = true ↔ y = x + 1 ∧ y < n ∧ (y < k ∨ k ≤ x) := by
  unfold ofM nbP
  rw [Bool.and_eq_true, decide_eq_true_eq, List.any_eq_true]
  constructor
  · rintro ⟨h1, p, hp, h2⟩
    obtain ⟨t, ht, rfl⟩ := List.mem_map.1 hp
    have h3 := (List.mem_filter.1 ht).2
    rw [decide_eq_true_eq] at h2 h3
    simp only at h2
    omega
  · rintro ⟨rfl, h2, h3⟩
    refine ⟨by omega, ((x : Int), (x : Int) + 1), List.mem_map.2 ⟨x, List.mem_filter.2 ⟨List.mem_range.2 (by omega), by rw [decide_eq_true_eq]; omega⟩, rfl⟩, by rw [decide_eq_true_eq]; simp⟩
theorem clo_nb (k n : Nat) : clo (ofM (nbP k n n) n) n = twoM k n := by
  have hs := ofM_sup (nbP k n n) n
  funext x y
  rw [Bool.eq_iff_iff]
  constructor
  · exact clo_least hs (twoM_tr k n) fun a b h => by
      have := ofM_nb.1 h
      unfold twoM; rw [decide_eq_true_eq]; omega
  · intro h
    unfold twoM at h
    rw [decide_eq_true_eq] at h
    have : ∀ d z, z = x + 1 + d → z < n → (z < k ∨ k ≤ x) → clo (ofM (nbP k n n) n) n x z = true := by
      intro d
      induction d with
      | zero => exact fun z hz hn hk => clo_ge hs (ofM_nb.2 ⟨by omega, by omega, by omega⟩)
      | succ d ih => exact fun z hz hn hk => clo_tr hs x (z - 1) z (ih (z - 1) (by omega) (by omega) (by omega)) (clo_ge hs (ofM_nb.2 ⟨by omega, by omega, by omega⟩))
    exact this (y - x - 1) y (by omega) h.2.1 h.2.2
section
variable {k j : Nat}
theorem ch_rM : rM (lsN (k + j)) (nbP k (k + j) (k + j)) = twoM k (k + j) := by
  rw [rM_all (lsN_d _), lsN_len, clo_nb]
theorem ch_alv : alv (lsN (k + j)) = List.range (k + j) := by rw [alv_all (lsN_d _), lsN_len]
theorem ch_ord : ordL (lsN (k + j)) (nbP k (k + j) (k + j)) = List.range (k + j) := by
  unfold ordL
  rw [ch_rM, ch_alv, List.length_range]
  exact srt_lt fun x y h => by unfold twoM at h; rw [decide_eq_true_eq] at h; exact h.1
theorem ch_shn {i : Nat} (h : i < k + j) : shn (lsN (k + j)) (nbP k (k + j) (k + j)) i = ⟨1, (i : Int), markB (twoM k (k + j)) (k + j) i, [UInt8.ofNat (97 + i % 26), 10]⟩ := by
  unfold shn
  rw [ch_rM, ch_alv, List.length_range]
  have e : (List.range (k + j)).getD i 0 = i := by simp [List.getD, h]
  rw [e, lnD (by rw [lsN_len]; exact h), lsN_get h]; rfl
theorem ch_shL : shL (lsN (k + j)) (nbP k (k + j) (k + j)) = (List.range (k + j)).map fun i => ⟨1, (i : Int), markB (twoM k (k + j)) (k + j) i, [UInt8.ofNat (97 + i % 26), 10]⟩ := by
  unfold shL
  rw [ch_ord]
  exact List.map_congr_left fun i hi => ch_shn (List.mem_range.1 hi)
theorem ch_mark (hk : 0 < k) {i : Nat} (h : i < k + j) : markB (twoM k (k + j)) (k + j) i = if 0 < j then 63 else 32 := by
  have h0 : twoM k (k + j) i i = false := by unfold twoM; rw [decide_eq_false_iff_not]; omega
  unfold markB
  rw [h0, if_neg (by decide)]
  have e : apartM (twoM k (k + j)) (k + j) i = decide (0 < j) := by
    rw [Bool.eq_iff_iff, decide_eq_true_eq]
    unfold apartM
    rw [List.any_eq_true]
    constructor
    · rintro ⟨t, ht, h'⟩
      have ht := List.mem_range.1 ht
      simp only [Bool.and_eq_true, decide_eq_true_eq, Bool.not_eq_true'] at h'
      unfold twoM at h'
      rw [decide_eq_false_iff_not, decide_eq_false_iff_not] at h'
      omega
    · intro hj
      by_cases hi : i < k
      · refine ⟨k, List.mem_range.2 (by omega), ?_⟩
        unfold twoM
        rw [decide_eq_true (by omega), decide_eq_false (by omega), decide_eq_false (by omega)]; rfl
      · refine ⟨0, List.mem_range.2 (by omega), ?_⟩
        unfold twoM
        rw [decide_eq_true (by omega), decide_eq_false (by omega), decide_eq_false (by omega)]; rfl
  rw [e]
  by_cases hj : 0 < j <;> simp [hj]
theorem ch_lin (hk : 0 < k) : linB (lsN (k + j)) (nbP k (k + j) (k + j)) = decide (j = 0) := by
  unfold linB
  rw [ch_rM, ch_alv, List.length_range, Bool.eq_iff_iff, totB_iff, decide_eq_true_eq]
  unfold twoM
  constructor
  · rintro ⟨_, h⟩
    rcases Nat.eq_zero_or_pos j with h0 | h0
    · exact h0
    · have := h 0 (by omega) k (by omega)
      rw [decide_eq_true_eq, decide_eq_true_eq] at this
      omega
  · rintro rfl
    refine ⟨fun a ha => by rw [decide_eq_false_iff_not]; omega, fun a ha b hb => ?_⟩
    rw [decide_eq_true_eq, decide_eq_true_eq]
    omega
end
/-- What the row's texts are together. -/
def txtK (i : Nat) : BL := (List.range i).flatMap fun t => [UInt8.ofNat (97 + t % 26), 10]
theorem txtK_succ (i : Nat) : txtK (i + 1) = txtK i ++ [UInt8.ofNat (97 + i % 26), 10] := by
  unfold txtK; rw [List.range_succ, List.flatMap_append, List.flatMap_singleton]
theorem txtK_len (i : Nat) : (txtK i).length = 2 * i := by
  induction i with
  | zero => rfl
  | succ i ih => rw [txtK_succ, List.length_append, ih]; rfl
theorem viewChains_law {n m : Int} {H : Hp} (wn : (Lit.int .u8 n).wf = true) (wm : (Lit.int .u8 m).wf = true) (hT : Tz H) : centolaw14_ViewChains.C n m H fun r H' => r = true ∧ Le H H' := by
  apply centolaw14_ViewChains.of
  have bn := wf_u8 wn
  have bm := wf_u8 wm
  obtain ⟨n, rfl⟩ : ∃ k : Nat, n = k := ⟨n.toNat, by omega⟩
  obtain ⟨m, rfl⟩ : ∃ k : Nat, m = k := ⟨m.toNat, by omega⟩
  refine centolaw14_known.c hT fun H0 le0 => bcn (fun h => by cases h) fun _ => ⟨by decide, ?_⟩
  rw [show (15 : Int) = ((15 : Nat) : Int) from rfl, ← Int.ofNat_tmod, ← Int.ofNat_tmod]
  have hn : n % 15 < 15 := Nat.mod_lt _ (by decide)
  have hm : m % 15 < 15 := Nat.mod_lt _ (by decide)
  generalize n % 15 = k0 at hn
  generalize m % 15 = j at hm
  refine chk (by omega) (chk (by omega) ⟨by decide, chk (by omega) ?_⟩)
  rw [show ((k0 : Nat) : Int) + 1 = ((k0 + 1 : Nat) : Int) by omega]
  obtain ⟨k, hk⟩ : ∃ k, k = k0 + 1 := ⟨_, rfl⟩
  rw [← hk]
  have hk0 : 0 < k := by omega
  have hk15 : k ≤ 15 := by omega
  clear hk hn wn wm bn bm
  have hT0 := hT.le le0
  refine Fb.new (A := H0) (Le.refl _) fun q H1 hF1 le1 => ?_
  refine ⟨fun t i Hx => ∃ i' : Nat, i = (i' : Nat) ∧ i' ≤ k + j ∧ t = mkB (txtK (min i' k)) ∧ Fb H0 Hx q (bs [112]) (lsN i') (nbP k (k + j) i'), fun _ i _ => (((k + j : Nat) : Int) - i).toNat, ⟨0, rfl, Nat.zero_le _, by rw [Nat.zero_min]; rfl, hF1⟩, ?_⟩
  rintro t i Hx ⟨i, rfl, gi, rfl, hF⟩
  refine chk (by omega) (bcd (fun hlt => ?_) fun hlt => ?_)
  · obtain ⟨lp, ll, lc, rL, sL, hL⟩ := hF.getL
    have el := sL.len
    rw [lsN_len] at el
    have hw : (97 : Int) + IntKind.wrap .u8 (Int.tmod ((i : Nat) : Int) (26 : Int)) = (((UInt8.ofNat (97 + i % 26)).toNat : Nat) : Int) := by
      rw [u8w', show (26 : Int) = ((26 : Nat) : Int) from rfl, ← Int.ofNat_tmod]
      have := Nat.mod_lt i (show 0 < 26 by decide)
      rw [UInt8.toNat_ofNat']; omega
    refine ldL_i rL ⟨by decide, rL, ?_⟩
    rw [hw]
    have h256 := UInt8.toNat_lt (UInt8.ofNat (97 + i % 26))
    refine chkU8 (by omega) fun b hb => ?_
    have leb : Le Hx (upd Hx b ([.int .u8 (((UInt8.ofNat (97 + i % 26)).toNat : Nat) : Int), .int .u8 (10 : Int)] ++ [tyM 5 0 0])) := Le.upd hb
    refine ⟨(hL _ leb).1, bts_two (y := 10) ⟨(hL _ leb).1, centolaw14_line.c fun H2 le2 => ?_⟩⟩
    have le02 := leb.trans le2
    obtain ⟨rL2, hL2⟩ := hL _ le02
    refine ⟨rL2, fun b2 hb2 => ?_⟩
    have key := hL2 (lnK i) b2 (fun H' => bc (decide (((i : Nat) : Int) < ((k : Nat) : Int))) (ldL (rd H' q 1) fun xp41 xl42 _ => IDX ((i : Nat) : Int) xl42 fun k44 => NIL xp41 fun bq45 oq46 => ldS (rd H' bq45 ((oq46 + (k44 * 4)) + 2)) fun x47 => (((mkB (txtK (min i k))).size + x47.size : Nat) : Int) ≤ 9223372036854775807 ∧ (centolaw14_ViewChains.k1 Hx (fun t i Hx => ∃ i' : Nat, i = (i' : Nat) ∧ i' ≤ k + j ∧ t = mkB (txtK (min i' k)) ∧ Fb H0 Hx q (bs [112]) (lsN i') (nbP k (k + j) i')) q ((i : Nat) : Int) (fun _ i _ => (((k + j : Nat) : Int) - i).toNat) (mkB (txtK (min i k))) ((k : Nat) : Int) ((j : Nat) : Int) (mkB (txtK (min i k)) ++ x47) H')) (centolaw14_ViewChains.k1 Hx (fun t i Hx => ∃ i' : Nat, i = (i' : Nat) ∧ i' ≤ k + j ∧ t = mkB (txtK (min i' k)) ∧ Fb H0 Hx q (bs [112]) (lsN i') (nbP k (k + j) i')) q ((i : Nat) : Int) (fun _ i _ => (((k + j : Nat) : Int) - i).toNat) (mkB (txtK (min i k))) ((k : Nat) : Int) ((j : Nat) : Int) (mkB (txtK (min i k))) H')) hb2 (by omega) fun H3 hF3 => ?_
    · exact key
    -- behind the line
    rw [← lsN_succ] at hF3
    have go : ∀ t : ByteArray, t = mkB (txtK (min (i + 1) k)) → centolaw14_ViewChains.k1 Hx (fun t i Hx => ∃ i' : Nat, i = (i' : Nat) ∧ i' ≤ k + j ∧ t = mkB (txtK (min i' k)) ∧ Fb H0 Hx q (bs [112]) (lsN i') (nbP k (k + j) i')) q ((i : Nat) : Int) (fun _ i _ => (((k + j : Nat) : Int) - i).toNat) (mkB (txtK (min i k))) ((k : Nat) : Int) ((j : Nat) : Int) t H3 := by
      rintro t rfl
      have fin : ∀ H', Fb H0 H' q (bs [112]) (lsN (i + 1)) (nbP k (k + j) (i + 1)) → CHK .i64 (((i : Nat) : Int) + (1 : Int)) fun x64 => (∃ i' : Nat, x64 = (i' : Nat) ∧ i' ≤ k + j ∧ mkB (txtK (min (i + 1) k)) = mkB (txtK (min i' k)) ∧ Fb H0 H' q (bs [112]) (lsN i') (nbP k (k + j) i')) ∧ (((k + j : Nat) : Int) - x64).toNat < (((k + j : Nat) : Int) - ((i : Nat) : Int)).toNat := fun H' h =>
        chk (by omega) ⟨⟨i + 1, by omega, by omega, rfl, h⟩, by omega⟩
      have two : ∀ b : Bool, (b = decide (i + 1 < k ∨ k ≤ i ∧ i + 1 < k + j)) → centolaw14_ViewChains.k2 Hx (fun t i Hx => ∃ i' : Nat, i = (i' : Nat) ∧ i' ≤ k + j ∧ t = mkB (txtK (min i' k)) ∧ Fb H0 Hx q (bs [112]) (lsN i') (nbP k (k + j) i')) q ((i : Nat) : Int) (fun _ i _ => (((k + j : Nat) : Int) - i).toNat) (mkB (txtK (min i k))) (mkB (txtK (min (i + 1) k))) b H3 := by
        intro b hb
        unfold centolaw14_ViewChains.k2
        refine bc_i (fun h => ?_) fun h => ?_
        · have h := of_decide_eq_true (hb.symm.trans h)
          obtain ⟨pp, pl, pc, rP, sP, hP⟩ := hF3.getP
          have ep := sP.len
          have hnl := nbP_len (k := k) (n := k + j) (i := i)
          refine ldL_i rP (chk (by omega) fun b4 hb4 => ?_)
          exact ((hP H3 (Le.refl _)).2 ((i : Int), (i : Int) + 1) b4 _ hb4 (by omega) fun H4 hF4 => fin H4 (by rw [nbP_on h]; exact hF4)).2
        · have h := of_decide_eq_false (hb.symm.trans h)
          exact fin H3 (by rw [nbP_off h]; exact hF3)
      unfold centolaw14_ViewChains.k1
      refine chk (by omega) (bcd (fun h => two _ (by rw [decide_eq_true (by omega)])) fun h => bcd (fun h' => chk (by omega) (chk (by omega) (two _ (decide_eq_decide.2 (by omega))))) fun h' => two _ (by rw [decide_eq_false (by omega)]))
    refine bcd (fun h => ?_) fun h => go _ (by rw [Nat.min_eq_right (by omega), Nat.min_eq_right (by omega)])
    obtain ⟨lp3, ll3, lc3, rL3, sL3, hL3⟩ := hF3.getL
    have el3 := sL3.len
    rw [lsN_len] at el3
    refine ldL_i rL3 (sn_nil sL3 (by omega) (by omega) fun b3 o3 hi3 e3 => ?_)
    simp only [Int.toNat_natCast] at e3 ⊢
    rw [lsN_get (by omega)] at e3
    refine ldS_i (e3 2 _ rfl) ⟨?_, go _ ?_⟩
    · rw [mkB_size, txtK_len]; show ((_ + (mkB [_, _]).size : Nat) : Int) ≤ _; rw [mkB_size]; simp only [List.length_cons, List.length_nil]; omega
    · rw [Nat.min_eq_left (by omega), Nat.min_eq_left (by omega), txtK_succ, eq_iff_L, L_append]; rfl
  · have : i = k + j := by omega
    subst this
    rw [Nat.min_eq_right (by omega)]
    obtain ⟨lp, ll, lc, pp, pl, pc, d, sL, sP⟩ := hF.use
    have el := sL.len
    have ep := sP.len
    rw [lsN_len] at el
    have hnl := nbP_len (k := k) (n := k + j) (i := k + j)
    have hTx := hT0.le hF.1
    have l0x := hF.1
    have ht := lsN_t (k + j)
    have hsl : (shL (lsN (k + j)) (nbP k (k + j) (k + j))).length = k + j := by rw [ch_shL]; simp
    have hlin := ch_lin (k := k) (j := j) hk0
    have key : ∀ (r84 : ByteArray) (r85 : Bool) (H6 : Hp), (r85 = true → r84 = mkB (txtK k)) → r85 = decide (j = 0) → Le Hx H6 → ldS (rd H6 q 0) fun x94 => ldL (rd H6 q 1) fun xp95 xl96 xc97 => ldL (rd H6 q 2) fun xp98 xl99 xc100 => view_Show.C x94 xp95 xl96 xc97 xp98 xl99 xc100 H6 fun rp101 rl102 _ Hx104 => CHK .i64 (((k : Nat) : Int) + ((j : Nat) : Int)) fun x112 => bc ((decide (¬ ((rl102 : Nat) : Int) = x112))) ((fun r H' => r = true ∧ Le H H') false Hx104) (bc ((decide (¬ r85 = (decide (((j : Nat) : Int) = (0 : Int)))))) ((fun r H' => r = true ∧ Le H H') false Hx104) (bc (r85) (bc ((decide (¬ r84 = mkB (txtK k)))) ((fun r H' => r = true ∧ Le H H') false Hx104) (centolaw14_ViewChains.k3 (fun r H' => r = true ∧ Le H H') rl102 rp101 ((j : Nat) : Int) Hx104)) (centolaw14_ViewChains.k3 (fun r H' => r = true ∧ Le H H') rl102 rp101 ((j : Nat) : Int) Hx104))) := by
      intro r84 r85 H6 hr hj le6
      refine (d.le le6).get (view_Show.c (sL.le le6) (sP.le le6) (hTx.le le6) (by omega) (by omega) fun p7 l7 c7 H7 hB7 le7 => ?_)
      have s7 := hB7.sn shC_len (by decide)
      have n7 := s7.len
      rw [hsl] at n7
      have fin : centolaw14_ViewChains.k3 (fun r H' => r = true ∧ Le H H') l7 p7 ((j : Nat) : Int) H7 := by
        have go : ∀ w : UInt8, w = (if 0 < j then 63 else 32) → centolaw14_ViewChains.k4 (fun r H' => r = true ∧ Le H H') l7 p7 ((w.toNat : Nat) : Int) H7 := by
          intro w hw
          refine ⟨fun t Hy => ∃ i : Nat, t = (i : Nat) ∧ i ≤ l7 ∧ Hy = H7, fun t _ => ((l7 : Int) - t).toNat, ⟨0, rfl, Nat.zero_le _, rfl⟩, ?_⟩
          rintro t Hy ⟨i, rfl, gi, rfl⟩
          refine bcd (fun hlt => ?_) fun hlt => ⟨rfl, le0.trans (l0x.trans (le6.trans le7))⟩
          have hik : i < k + j := by omega
          have eg : (shL (lsN (k + j)) (nbP k (k + j) (k + j)))[i]'(by rw [hsl]; exact hik) = ⟨1, (i : Int), w, [UInt8.ofNat (97 + i % 26), 10]⟩ := by
            simp only [ch_shL, List.getElem_map, List.getElem_range]
            rw [ch_mark hk0 hik, ← hw]
          refine sn_nil s7 (by omega) hlt fun b o hi e => ?_
          simp only [Int.toNat_natCast] at e ⊢
          rw [eg] at e
          refine ldI_i (e 1 _ rfl) (bcd (fun h => absurd rfl h) fun _ => ?_)
          refine sn_nil s7 (by omega) hlt fun b o hi e => ?_
          simp only [Int.toNat_natCast] at e ⊢
          rw [eg] at e
          exact ldI_i (e 2 _ rfl) (bcd (fun h => absurd rfl h) fun _ => chk (by omega) ⟨⟨i + 1, by omega, by omega, by trivial⟩, by first | omega | (dsimp only; omega)⟩)
        unfold centolaw14_ViewChains.k3
        refine bcd (fun h => go 63 (by rw [if_pos (by omega)])) fun h => go 32 (by rw [if_neg (by omega)])
      refine chk (by omega) (bcd (fun h => absurd (by omega) h) fun _ => bcd (fun h => absurd (by rw [hj]; exact decide_eq_decide.2 (by omega)) h) fun _ => bc_i (fun h => bcd (fun h' => absurd (hr h) h') fun _ => fin) fun _ => fin)
    refine d.get (view_Text.c sL sP hTx (by omega) (by omega) ht (fun hl H5 le5 => ?_) fun hl H5 le5 => ?_)
    · exact key _ _ H5 (fun h => by cases h) (by rw [← hlin, hl]) le5
    · refine key _ _ H5 (fun _ => ?_) (by rw [← hlin, hl]) le5
      have hj : j = 0 := of_decide_eq_true (hlin.symm.trans hl)
      subst hj
      unfold txtL txtK
      rw [ch_shL, List.flatMap_map]; rfl

theorem viewChains_own : ownKnob Tryd.prog.godebug = none := by kernel_rfl
theorem viewChains_laid : laidOutB Tryd.prog = true := by kernel_rfl
set_option maxRecDepth 100000 in
theorem viewChains_lifted (os : Os) (started : os.Started) (H : Type) (enc : TypeId × Value → H) :
    ReturnsInHanded {} Tryd.checked os 9 .any (fun w args => (Rows.viewChainsSpec.pre enc Tryd.prog Tryd.f9 [] false w args ∧ laidMetH Tryd.prog laidTz w) ∧ sizedMet enc Tryd.prog Tryd.f9 (OpenSpec.ofChange Rows.viewChainsSpec) false w args)
      (Rows.viewChainsSpec.post enc Tryd.prog Tryd.f9 false true false false) := by
  refine returnsInHanded_of_change_and (C := Tryd.checked) (X := fun w _ => laidMetH Tryd.prog laidTz w) (fun _ _ _ hh h => h.of_heap hh) viewChains_own started (by kernel_rfl) Tryd.func9
    (ChangeSpec.witness_shaped (enc := enc) (C := Tryd.checked) (os := os) (X := fun w _ => laidMetH Tryd.prog laidTz w) false (World.doorLaid Tryd.prog 400 os) #[.int .u8 0, .int .u8 0] 8 rfl (World.shaped_of_RefB (by kernel_rfl) (by kernel_rfl)) (by kernel_rfl) (by kernel_rfl) (by kernel_rfl) (door_met os _)) ?_
  intro W base args ds gs before hval0 hW _ _ hL _
  have hval : ∀ (j : Nat) t v, Tryd.f9.params[j]? = some t → args[j]? = some v → Value.okWide Tryd.prog W .any base t v := hval0
  have hW' := hW
  obtain ⟨p, q, hA0, hV, rfl, hfz, hnd⟩ := hW
  have hA : DataW.TrodAll enc Tryd.prog W 0 (fun _ => true) true Tryd.f9.params.toList args.toList ds p := hA0
  rw [Tryd.params9] at hA hval
  obtain ⟨v0, v1, d0, d1, p0, p1, rfl, rfl, rfl, h0, h1⟩ := trodAll_two hA
  obtain ⟨x0, rfl, rfl, rfl, w0⟩ := open_int Tryd.underlying5 (hval 0 5 v0 rfl rfl) h0
  obtain ⟨x1, rfl, rfl, rfl, w1⟩ := open_int Tryd.underlying5 (hval 1 5 v1 rfl rfl) h1
  refine (calls_true (viewChains_law w0 w1 (tz_of_laid hL)) Tryd.func9 (by kernel_rfl)).mono fun e W' ⟨he, hk⟩ => ?_
  subst he
  exact ⟨_, rfl, post_true viewChains_laid hW' (by kernel_rfl) rfl rfl rfl Tryd.underlying4 hk⟩

theorem viewChains_row : Rows.ViewChainsSaid :=
  OpenClaim.holds_of_wide 9 Tryd.f9 rfl rfl rfl rfl rfl rfl rfl ⟨rfl, rfl, rfl, rfl, rfl⟩ rfl rfl rfl rfl rfl (by kernel_rfl) Tryd.func9 (by kernel_rfl)
    (of_decide_eq_true (by kernel_rfl)) (by unfold Func.isWrapper; first | (rw [if_pos (by decide +kernel)]; kernel_rfl) | (rw [if_neg (by decide +kernel)]; exact ⟨rfl, rfl⟩))
    (fun os started H enc _ => viewChains_lifted os started H enc)

theorem viewChains_card : Rows.ViewChainsCardSaid :=
  Claim7.holds_tied_plain_at .later [] [.data] true (true, "f1eba887bf2a15496a222adcf75d60a0462008cefa76589392225645476a6e39") false
    viewChains_row (fun _ h => by cases h) (by kernel_rfl) (fun _ h => by cases h) viewChains_row_tie rfl ⟨rfl, rfl⟩ (by kernel_rfl) rfl
    (fun f fn hf hfn => by
      obtain rfl : f = 9 := Option.some.inj ((show Tryd.prog.funcNamed Rows.viewChainsRow.func = some 9 by kernel_rfl).symm.trans hf) |>.symm
      obtain rfl : fn = Tryd.f9 := (Option.some.inj (Tryd.func9.symm.trans hfn)).symm
      exact ⟨by kernel_rfl, fun j t ht => by
        rw [Tryd.params9] at ht
        have hm : t ∈ [5] := by
          have := Array.mem_of_getElem? ht
          simp at this
          first | (rcases this with rfl | rfl <;> simp) | simp [this]
        have hall : ([5].all fun u => !Tryd.prog.wantsStandIn u) = true := by kernel_rfl
        exact (show Tryd.prog.wantsStandIn t = false by simpa using List.all_eq_true.1 hall t hm)⟩)
    (by kernel_rfl)
end Go.Proofs.YteijgmmjgbgffaaDoor
