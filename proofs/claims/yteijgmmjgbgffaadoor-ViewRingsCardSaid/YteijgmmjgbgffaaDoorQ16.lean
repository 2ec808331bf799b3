/- For every numbers ViewRings returns true: no condition. -/
import Derived.Test.YteijgmmjgbgffaaDoorZ5
namespace Go.Proofs.YteijgmmjgbgffaaDoor
open Go.V
open Go.ChangeShapes Go.WideShapes Go.ChangeAt Go.RowKit
def rgP (k i : Nat) : List (Int × Int) := (List.range i).map fun (t : Nat) => ((t : Int), (((t + 1) % k : Nat) : Int))
def chP (k i : Nat) : List (Int × Int) := (List.range i).map fun (t : Nat) => (((k + t : Nat) : Int) - 1, ((k + t : Nat) : Int))
theorem rgP_succ (k i : Nat) : rgP k (i + 1) = rgP k i ++ [((i : Int), (((i + 1) % k : Nat) : Int))] := by unfold rgP; rw [List.range_succ, List.map_append]; rfl
theorem chP_succ (k i : Nat) : chP k (i + 1) = chP k i ++ [(((k + i : Nat) : Int) - 1, ((k + i : Nat) : Int))] := by unfold chP; rw [List.range_succ, List.map_append]; rfl
def ringM (k n : Nat) : Nat → Nat → Bool := fun x y => decide (x < n ∧ y < n ∧ (x < k ∨ x < y))
theorem ringM_tr (k n : Nat) : Tr (ringM k n) := fun x y z h1 h2 => by
  unfold ringM at *
  rw [decide_eq_true_eq] at *; omega
theorem ofM_rg {k j x y : Nat} (hk : 0 < k) : ofM (rgP k k ++ chP k j) (k + j) x y = true ↔ x < k + j ∧ y < k + j ∧ (x < k ∧ y = (x + 1) % k ∨ k ≤ y ∧ y = x + 1) := by
  unfold ofM
  rw [Bool.and_eq_true, decide_eq_true_eq, List.any_eq_true]
  constructor
  · rintro ⟨h1, p, hp, h2⟩
    rw [decide_eq_true_eq] at h2
    refine ⟨h1.1, h1.2, ?_⟩
    rcases List.mem_append.1 hp with hp | hp
    · obtain ⟨t, ht, rfl⟩ := List.mem_map.1 hp
      have ht := List.mem_range.1 ht
      simp only at h2
      left
      obtain rfl : t = x := by omega
      exact ⟨ht, by omega⟩
    · obtain ⟨t, ht, rfl⟩ := List.mem_map.1 hp
      simp only at h2
      right; omega
  · rintro ⟨h1, h2, h3⟩
    refine ⟨⟨h1, h2⟩, ?_⟩
    rcases h3 with ⟨h3, rfl⟩ | ⟨h3, rfl⟩
    · exact ⟨_, List.mem_append_left _ (List.mem_map.2 ⟨x, List.mem_range.2 h3, rfl⟩), by simp⟩
    · refine ⟨_, List.mem_append_right _ (List.mem_map.2 ⟨x + 1 - k, List.mem_range.2 (by omega), rfl⟩), ?_⟩
      rw [decide_eq_true_eq]; simp only; omega
theorem clo_rg {k j : Nat} (hk : 0 < k) : clo (ofM (rgP k k ++ chP k j) (k + j)) (k + j) = ringM k (k + j) := by
  have hs := ofM_sup (rgP k k ++ chP k j) (k + j)
  funext x y
  rw [Bool.eq_iff_iff]
  constructor
  · exact clo_least hs (ringM_tr k (k + j)) fun a b h => by
      have := (ofM_rg hk).1 h
      unfold ringM; rw [decide_eq_true_eq]; omega
  · intro h
    unfold ringM at h
    rw [decide_eq_true_eq] at h
    have one : ∀ t, t + 1 < k + j → ofM (rgP k k ++ chP k j) (k + j) t (t + 1) = true := fun t ht => by
      rw [ofM_rg hk]
      refine ⟨by omega, ht, ?_⟩
      by_cases e : t + 1 < k
      · left; exact ⟨by omega, (Nat.mod_eq_of_lt e).symm⟩
      · right; omega
    have up : ∀ d x z, z = x + 1 + d → z < k + j → clo (ofM (rgP k k ++ chP k j) (k + j)) (k + j) x z = true := by
      intro d
      induction d with
      | zero => exact fun x z hz hn => clo_ge hs (by subst hz; exact one x hn)
      | succ d ih => exact fun x z hz hn => clo_tr hs x (z - 1) z (ih x (z - 1) (by omega) (by omega)) (clo_ge hs (by obtain ⟨w, rfl⟩ : ∃ w, z = w + 1 := ⟨z - 1, by omega⟩; exact one w hn))
    by_cases hxy : x < y
    · exact up (y - x - 1) x y (by omega) h.2.1
    · have hxk : x < k := by omega
      have back : clo (ofM (rgP k k ++ chP k j) (k + j)) (k + j) (k - 1) 0 = true := clo_ge hs ((ofM_rg hk).2 ⟨by omega, by omega, .inl ⟨by omega, by rw [show k - 1 + 1 = k by omega, Nat.mod_self]⟩⟩)
      have b2 : clo (ofM (rgP k k ++ chP k j) (k + j)) (k + j) x 0 = true := by
        by_cases e : x = k - 1
        · rw [e]; exact back
        · exact clo_tr hs x (k - 1) 0 (up (k - 1 - x - 1) x (k - 1) (by omega) (by omega)) back
      by_cases e : y = 0
      · rw [e]; exact b2
      · exact clo_tr hs x 0 y b2 (up (y - 1) 0 y (by omega) h.2.1)
/-- The first i lines dead. -/
def lsD (n i : Nat) : List Ln := (List.range n).map fun t => { lnK t with d := decide (t < i) }
theorem lsD_len (n i : Nat) : (lsD n i).length = n := by simp [lsD]
theorem lsD_get {n i t : Nat} (h : t < n) : (lsD n i)[t]'(by rw [lsD_len]; exact h) = { lnK t with d := decide (t < i) } := by simp [lsD]
theorem lsD_zero (n : Nat) : lsD n 0 = lsN n := by unfold lsD lsN; exact List.map_congr_left fun t _ => by unfold lnK; simp
theorem lsD_t (n i : Nat) : ∀ x ∈ lsD n i, x.t.length ≤ 1000000 := fun x hx => by obtain ⟨t, _, rfl⟩ := List.mem_map.1 hx; show ([_, _] : BL).length ≤ _; simp
theorem lsD_set {n i : Nat} (h : i < n) : (lsD n i).set i { (lsD n i)[i]'(by rw [lsD_len]; exact h) with d := true } = lsD n (i + 1) := by
  refine List.ext_getElem (by rw [List.length_set, lsD_len, lsD_len]) fun t h1 h2 => ?_
  rw [lsD_len] at h2
  by_cases e : i = t
  · subst e; simp [lsD]
  · rw [List.getElem_set_ne e, lsD_get h2, lsD_get h2, show decide (t < i) = decide (t < i + 1) from decide_eq_decide.2 (by omega)]
section
variable {k j : Nat}
/-- What is shown, dead or not. -/
theorem rg_dead (hk : 0 < k) : alv (lsD (k + j) k) = List.range' k j := by
  unfold alv els
  rw [lsD_len]
  have e : (List.range (k + j)).filter (fun i => !((lsD (k + j) k).getD i ⟨0, 0, [], true⟩).d) = (List.range (k + j)).filter fun i => decide (k ≤ i) := List.filter_congr fun i hi => by
    have hi := List.mem_range.1 hi
    rw [lnD (by rw [lsD_len]; exact hi), lsD_get hi]
    simp only
    rw [Bool.eq_iff_iff]; simp
  rw [e, List.range_eq_range', ← List.range'_append_1, List.filter_append, Nat.zero_add, List.filter_eq_nil_iff.2 fun x hx => by rw [List.mem_range'_1] at hx; rw [decide_eq_true_eq]; omega, List.filter_eq_self.2 fun x hx => by rw [List.mem_range'_1] at hx; rw [decide_eq_true_eq]; omega, List.nil_append]
theorem rg_rM (hk : 0 < k) : rM (lsN (k + j)) (rgP k k ++ chP k j) = ringM k (k + j) := by
  rw [rM_all (lsN_d _), lsN_len, clo_rg hk]
theorem rg_rMd (hk : 0 < k) : rM (lsD (k + j) k) (rgP k k ++ chP k j) = fun x y => decide (x < y ∧ y < j) := by
  funext x y
  unfold rM
  rw [rg_dead hk, List.length_range']
  by_cases e : x < j ∧ y < j
  · rw [decide_eq_true e, Bool.true_and]
    unfold cM
    rw [lsD_len, clo_rg hk]
    unfold ringM
    have e1 : (List.range' k j).getD x 0 = k + x := by simp [List.getD, e.1]
    have e2 : (List.range' k j).getD y 0 = k + y := by simp [List.getD, e.2]
    rw [e1, e2]
    exact decide_eq_decide.2 (by omega)
  · rw [decide_eq_false e, Bool.false_and]
    exact (decide_eq_false (by omega)).symm
theorem rg_srt (hk : 0 < k) : srt (ringM k (k + j)) (k + j) = List.range (k + j) := by
  have hh : hdsM (ringM k (k + j)) (k + j) = 0 :: List.range' k j := by
    unfold hdsM els
    have e : (List.range (k + j)).filter (fstM (ringM k (k + j))) = (List.range (k + j)).filter fun i => decide (i = 0 ∨ k ≤ i) := List.filter_congr fun i hi => by
      have hi := List.mem_range.1 hi
      rw [Bool.eq_iff_iff, fstM_iff, decide_eq_true_eq]
      constructor
      · intro h
        by_cases h0 : i = 0
        · exact .inl h0
        · right
          have := h 0 (by omega)
          rcases Nat.lt_or_ge i k with h1 | h1
          · rw [oneM_iff.2 (.inr ⟨by unfold ringM; rw [decide_eq_true_eq]; omega, by unfold ringM; rw [decide_eq_true_eq]; omega⟩)] at this; cases this
          · exact h1
      · intro h b hb
        cases e : oneM (ringM k (k + j)) i b with
        | false => rfl
        | true =>
          rcases oneM_iff.1 e with e | e
          · omega
          · unfold ringM at e; rw [decide_eq_true_eq, decide_eq_true_eq] at e; omega
    rw [e, List.range_eq_range', show k + j = 1 + (k - 1 + j) by omega, ← List.range'_append_1, ← List.range'_append_1, List.filter_append, List.filter_append, List.filter_eq_self.2 fun x hx => by rw [List.mem_range'_1] at hx; rw [decide_eq_true_eq]; omega, List.filter_eq_nil_iff.2 fun x hx => by rw [List.mem_range'_1] at hx; rw [decide_eq_true_eq]; omega, List.filter_eq_self.2 fun x hx => by rw [List.mem_range'_1] at hx; rw [decide_eq_true_eq]; omega, show 0 + 1 + (k - 1) = k by omega]
    rfl
  have hc : clsM (ringM k (k + j)) (k + j) 0 = List.range k := by
    unfold clsM els
    have e : (List.range (k + j)).filter (fun b => decide (0 ≤ b) && oneM (ringM k (k + j)) 0 b) = (List.range (k + j)).filter fun i => decide (i < k) := List.filter_congr fun i hi => by
      have hi := List.mem_range.1 hi
      rw [Bool.eq_iff_iff, Bool.and_eq_true, oneM_iff, decide_eq_true_eq, decide_eq_true_eq]
      unfold ringM
      rw [decide_eq_true_eq, decide_eq_true_eq]; omega
    rw [e, List.range_eq_range', ← List.range'_append_1, List.filter_append, List.filter_eq_self.2 fun x hx => by rw [List.mem_range'_1] at hx; rw [decide_eq_true_eq]; omega, List.filter_eq_nil_iff.2 fun x hx => by rw [List.mem_range'_1] at hx; rw [decide_eq_true_eq]; omega, List.append_nil, List.range_eq_range']
  unfold srt
  rw [hh, List.length_cons, List.length_range', srtS, List.find?_cons_of_pos]
  · simp only
    rw [hc, List.erase_cons_head, srtS_tail j k (fun x y hx h => by unfold ringM at h; rw [decide_eq_true_eq] at h; omega) rfl, List.range_eq_range', List.range_eq_range']
    have := List.range'_append_1 (s := 0) (m := k) (n := j)
    rw [Nat.zero_add] at this
    exact this
  · unfold freeL
    rw [List.all_eq_true]
    intro g hg
    rw [Bool.or_eq_true, decide_eq_true_eq, Bool.not_eq_true']
    rcases List.mem_cons.1 hg with rfl | hg
    · exact .inl rfl
    · rw [List.mem_range'_1] at hg
      right; unfold ringM; rw [decide_eq_false_iff_not]; omega
def rgL (k j : Nat) (dead : Bool) : List Ln := if dead then lsD (k + j) k else lsN (k + j)
def rgF (k : Nat) (dead : Bool) : Nat := if dead then k else 0
theorem rg_shL (hk : 0 < k) (dead : Bool) : shL (rgL k j dead) (rgP k k ++ chP k j) = (List.range (k + j - rgF k dead)).map fun i => ⟨1, ((rgF k dead + i : Nat) : Int), if rgF k dead + i < k then 33 else 32, [UInt8.ofNat (97 + (rgF k dead + i) % 26), 10]⟩ := by
  cases dead with
  | true =>
    show shL (lsD (k + j) k) _ = (List.range (k + j - k)).map _
    have ho : ordL (lsD (k + j) k) (rgP k k ++ chP k j) = List.range j := by
      unfold ordL
      rw [rg_rMd hk, rg_dead hk, List.length_range']
      exact srt_lt fun x y h => (of_decide_eq_true h).1
    unfold shL
    rw [ho, Nat.add_sub_cancel_left]
    refine List.map_congr_left fun i hi => ?_
    have hi := List.mem_range.1 hi
    unfold shn
    rw [rg_rMd hk, rg_dead hk, List.length_range']
    have e1 : (List.range' k j).getD i 0 = k + i := by simp [List.getD, hi]
    rw [e1, lnD (by rw [lsD_len]; omega), lsD_get (by omega)]
    have em : markB (fun x y => decide (x < y ∧ y < j)) j i = 32 := by
      unfold markB
      rw [if_neg (by simp), if_neg]
      unfold apartM
      rw [List.any_eq_true]
      rintro ⟨t, ht, h⟩
      have ht := List.mem_range.1 ht
      simp only [Bool.and_eq_true, decide_eq_true_eq, Bool.not_eq_true', decide_eq_false_iff_not] at h
      omega
    rw [em]
    show (⟨_, _, _, _⟩ : Shn) = ⟨1, ((k + i : Nat) : Int), if k + i < k then 33 else 32, _⟩
    rw [if_neg (by omega)]; rfl
  | false =>
    show shL (lsN (k + j)) _ = (List.range (k + j - 0)).map _
    have ha : alv (lsN (k + j)) = List.range (k + j) := by rw [alv_all (lsN_d _), lsN_len]
    have ho : ordL (lsN (k + j)) (rgP k k ++ chP k j) = List.range (k + j) := by
      unfold ordL
      rw [rg_rM hk, ha, List.length_range, rg_srt hk]
    unfold shL
    rw [ho, Nat.sub_zero]
    refine List.map_congr_left fun i hi => ?_
    have hi := List.mem_range.1 hi
    unfold shn
    rw [rg_rM hk, ha, List.length_range]
    have e1 : (List.range (k + j)).getD i 0 = i := by simp [List.getD, hi]
    rw [e1, lnD (by rw [lsN_len]; exact hi), lsN_get hi]
    have em : markB (ringM k (k + j)) (k + j) i = if i < k then 33 else 32 := by
      unfold markB
      by_cases e : i < k
      · rw [if_pos e, if_pos (by unfold ringM; rw [decide_eq_true_eq]; omega)]
      · rw [if_neg e, if_neg (by unfold ringM; rw [decide_eq_true_eq]; omega), if_neg]
        unfold apartM
        rw [List.any_eq_true]
        rintro ⟨t, ht, h⟩
        have ht := List.mem_range.1 ht
        simp only [Bool.and_eq_true, decide_eq_true_eq, Bool.not_eq_true'] at h
        unfold ringM at h
        rw [decide_eq_false_iff_not, decide_eq_false_iff_not] at h
        omega
    rw [em]
    show (⟨_, _, _, _⟩ : Shn) = ⟨1, ((0 + i : Nat) : Int), if 0 + i < k then 33 else 32, [UInt8.ofNat (97 + (0 + i) % 26), 10]⟩
    rw [Nat.zero_add]; rfl
theorem rg_lin (hk : 0 < k) (dead : Bool) : linB (rgL k j dead) (rgP k k ++ chP k j) = dead := by
  unfold linB
  cases dead with
  | true =>
    show totB (rM (lsD (k + j) k) _) (alv (lsD (k + j) k)).length = true
    rw [rg_rMd hk, rg_dead hk, List.length_range', totB_iff]
    refine ⟨fun a ha => by simp, fun a ha b hb => ?_⟩
    rw [decide_eq_true_eq, decide_eq_true_eq]; omega
  | false =>
    show totB (rM (lsN (k + j)) _) (alv (lsN (k + j))).length = false
    rw [rg_rM hk, alv_all (lsN_d _), lsN_len, List.length_range]
    cases e : totB (ringM k (k + j)) (k + j) with
    | false => rfl
    | true =>
      have := (totB_iff.1 e).1 0 (by omega)
      unfold ringM at this
      rw [decide_eq_false_iff_not] at this
      omega
theorem filter_lt_len (k : Nat) : ∀ n, ((List.range n).filter fun i => decide (i < k)).length = min n k
  | 0 => by simp
  | n + 1 => by
    rw [List.range_succ, List.filter_append, List.length_append, filter_lt_len k n]
    by_cases h : n < k
    · rw [List.filter_cons_of_pos (by simpa using h)]; simp; omega
    · rw [List.filter_cons_of_neg (by simpa using h)]; simp; omega
theorem rg_cnf (hk : 0 < k) (dead : Bool) : cnfN (rgL k j dead) (rgP k k ++ chP k j) = k - rgF k dead := by
  unfold cnfN
  rw [rg_shL hk, List.filter_map, List.length_map]
  have e : ((fun s : Shn => decide (s.m ≠ 32)) ∘ fun i => (⟨1, ((rgF k dead + i : Nat) : Int), if rgF k dead + i < k then 33 else 32, [UInt8.ofNat (97 + (rgF k dead + i) % 26), 10]⟩ : Shn)) = fun i => decide (i < k - rgF k dead) := by
    funext i
    simp only [Function.comp]
    by_cases h : rgF k dead + i < k
    · simp only [if_pos h]; exact (decide_eq_true (by omega)).symm
    · simp only [if_neg h]; exact (decide_eq_false (by omega)).symm
  rw [e, filter_lt_len]
  unfold rgF
  cases dead <;> simp
end
theorem viewRings_law {n m : Int} {H : Hp} (wn : (Lit.int .u8 n).wf = true) (wm : (Lit.int .u8 m).wf = true) (dead : Bool) (hT : Tz H) : centolaw14_ViewRings.C n m dead H fun r H' => r = true ∧ Le H H' := by
  apply centolaw14_ViewRings.of
  have bn := wf_u8 wn
  have bm := wf_u8 wm
  obtain ⟨n, rfl⟩ : ∃ k : Nat, n = k := ⟨n.toNat, by omega⟩
  obtain ⟨m, rfl⟩ : ∃ k : Nat, m = k := ⟨m.toNat, by omega⟩
  refine centolaw14_known.c hT fun H0 le0 => bcn (fun h => by cases h) fun _ => ⟨by decide, ?_⟩
  rw [show (8 : Int) = ((8 : Nat) : Int) from rfl, ← Int.ofNat_tmod, ← Int.ofNat_tmod]
  have hn : n % 8 < 8 := Nat.mod_lt _ (by decide)
  have hm : m % 8 < 8 := Nat.mod_lt _ (by decide)
  generalize n % 8 = k0 at hn
  generalize m % 8 = j at hm
  refine chk (by omega) (chk (by omega) ⟨by decide, chk (by omega) ?_⟩)
  rw [show ((k0 : Nat) : Int) + 1 = ((k0 + 1 : Nat) : Int) by omega]
  obtain ⟨k, hk⟩ : ∃ k, k = k0 + 1 := ⟨_, rfl⟩
  rw [← hk]
  have hk0 : 0 < k := by omega
  have hk15 : k ≤ 8 := by omega
  clear hk hn wn wm bn bm
  have hT0 := hT.le le0
  refine Fb.new (A := H0) (Le.refl _) fun q H1 hF1 le1 => ?_
  refine ⟨fun i Hx => ∃ i' : Nat, i = (i' : Nat) ∧ i' ≤ k + j ∧ Fb H0 Hx q (bs [112]) (lsN i') [], fun i _ => (((k + j : Nat) : Int) - i).toNat, ⟨0, rfl, Nat.zero_le _, hF1⟩, ?_⟩
  rintro i Hx ⟨i, rfl, gi, hF⟩
  refine chk (by omega) (bcd (fun hlt => ?_) fun hlt => ?_)
  · obtain ⟨lp, ll, lc, rL, sL, hL⟩ := hF.getL
    have el := sL.len
    rw [lsN_len] at el
    have hw : (97 : Int) + IntKind.wrap .u8 ((i : Nat) : Int) = (((UInt8.ofNat (97 + i % 26)).toNat : Nat) : Int) := by
      rw [u8w', UInt8.toNat_ofNat']; omega
    refine ldL_i rL ⟨rL, ?_⟩
    rw [hw]
    have h256 := UInt8.toNat_lt (UInt8.ofNat (97 + i % 26))
    refine chkU8 (by omega) fun b hb => ?_
    have leb : Le Hx (upd Hx b ([.int .u8 (((UInt8.ofNat (97 + i % 26)).toNat : Nat) : Int), .int .u8 (10 : Int)] ++ [tyM 5 0 0])) := Le.upd hb
    refine ⟨(hL _ leb).1, bts_two (y := 10) ⟨(hL _ leb).1, centolaw14_line.c fun H2 le2 => ?_⟩⟩
    have le02 := leb.trans le2
    obtain ⟨rL2, hL2⟩ := hL _ le02
    refine ⟨rL2, fun b2 hb2 => ?_⟩
    exact hL2 (lnK i) b2 _ hb2 (by omega) fun H3 hF3 => chk (by omega) ⟨⟨i + 1, by omega, by omega, by rw [lsN_succ]; exact hF3⟩, by first | omega | (dsimp only; omega)⟩
  have : i = k + j := by omega
  subst this
  refine ⟨fun i Hx => ∃ i' : Nat, i = (i' : Nat) ∧ i' ≤ k ∧ Fb H0 Hx q (bs [112]) (lsN (k + j)) (rgP k i'), fun i _ => ((k : Int) - i).toNat, ⟨0, rfl, Nat.zero_le _, hF⟩, ?_⟩
  clear hF hlt gi hF1 le1
  rintro i Hx ⟨i, rfl, gi, hF⟩
  refine bcd (fun hlt => ?_) fun hlt => ?_
  · obtain ⟨pp, pl, pc, rP, sP, hP⟩ := hF.getP
    have el := sP.len
    have : (rgP k i).length = i := by simp [rgP]
    refine ldL_i rP (chk (by omega) ⟨by omega, rP, fun b4 hb4 => ?_⟩)
    rw [show ((i : Nat) : Int) + 1 = ((i + 1 : Nat) : Int) by omega, ← Int.ofNat_tmod] at *
    exact (hP Hx (Le.refl _)).2 ((i : Int), (((i + 1) % k : Nat) : Int)) b4 _ hb4 (by omega) fun H4 hF4 => chk (by omega) ⟨⟨i + 1, by omega, by omega, by rw [rgP_succ]; exact hF4⟩, by first | omega | (dsimp only; omega)⟩
  have : i = k := by omega
  subst this
  refine ⟨fun i' Hx => ∃ t : Nat, i' = ((i + t : Nat) : Int) ∧ t ≤ j ∧ Fb H0 Hx q (bs [112]) (lsN (i + j)) (rgP i i ++ chP i t), fun i' _ => (((i + j : Nat) : Int) - i').toNat, ⟨0, rfl, Nat.zero_le _, by simpa [chP] using hF⟩, ?_⟩
  clear hF hlt gi
  generalize i = k at *
  rintro i' Hx ⟨t, rfl, gt, hF⟩
  refine chk (by omega) (bcd (fun hlt => ?_) fun hlt => ?_)
  · obtain ⟨pp, pl, pc, rP, sP, hP⟩ := hF.getP
    have el := sP.len
    have : (rgP k k ++ chP k t).length = k + t := by simp [rgP, chP]
    refine ldL_i rP (chk (by omega) fun b4 hb4 => ?_)
    refine ((hP Hx (Le.refl _)).2 (((k + t : Nat) : Int) - 1, ((k + t : Nat) : Int)) b4 _ hb4 (by omega) fun H4 hF4 => chk (by omega) ⟨⟨t + 1, by omega, by omega, by rw [chP_succ, ← List.append_assoc]; exact hF4⟩, by first | omega | (dsimp only; omega)⟩).2
  have : t = j := by omega
  subst this
  generalize hps : rgP k k ++ chP k t = ps at *
  have psl : ps.length ≤ 16 := by rw [← hps]; simp [rgP, chP]; omega
  refine ⟨fun i Hx => ∃ i' : Nat, i = (i' : Nat) ∧ i' ≤ k ∧ (i' = 0 ∨ dead = true) ∧ Fb H0 Hx q (bs [112]) (lsD (k + t) i') ps, fun i _ => ((k : Int) - i).toNat, ⟨0, rfl, Nat.zero_le _, .inl rfl, by rw [lsD_zero]; exact hF⟩, ?_⟩
  clear hF hlt gt
  rintro i Hx ⟨i, rfl, gi, hd, hF⟩
  -- what is shown
  have key : i = rgF k dead → ldS (rd Hx q 0) fun x92 => ldL (rd Hx q 1) fun xp93 xl94 xc95 => ldL (rd Hx q 2) fun xp96 xl97 xc98 => view_Show.C x92 xp93 xl94 xc95 xp96 xl97 xc98 Hx fun rp99 rl100 _ Hx102 => bc (dead) (centolaw14_ViewRings.k2 (fun r H' => r = true ∧ Le H H') q dead rl100 rp99 ((k : Nat) : Int) ((t : Nat) : Int) ((k : Nat) : Int) Hx102) (centolaw14_ViewRings.k2 (fun r H' => r = true ∧ Le H H') q dead rl100 rp99 ((k : Nat) : Int) ((t : Nat) : Int) (0 : Int) Hx102) := by
    intro hi
    have el : lsD (k + t) i = rgL k t dead := by
      rw [hi]; unfold rgF rgL
      cases dead
      · exact lsD_zero _
      · rfl
    rw [el] at hF
    have hfk : rgF k dead ≤ k := by omega
    obtain ⟨lp, ll, lc, pp, pl, pc, d, sL, sP⟩ := hF.use
    have e1 := sL.len
    have e2 := sP.len
    rw [← el, lsD_len] at e1
    have hTx := hT0.le hF.1
    have l0x := hF.1
    have hsl : (shL (rgL k t dead) ps).length = k + t - rgF k dead := by rw [← hps, rg_shL hk0]; simp
    refine d.get (view_Show.c sL sP hTx (by omega) (by omega) fun p7 l7 c7 H7 hB7 le7 => ?_)
    have s7 := hB7.sn shC_len (by decide)
    have n7 := s7.len
    rw [hsl] at n7
    have fin : ∀ fr : Int, fr = (rgF k dead : Nat) → centolaw14_ViewRings.k2 (fun r H' => r = true ∧ Le H H') q dead l7 p7 ((k : Nat) : Int) ((t : Nat) : Int) fr H7 := by
      rintro fr rfl
      refine chk (by omega) (chk (by omega) (bcd (fun h => absurd (by omega) h) fun _ => ?_))
      refine (d.le le7).get (view_Linear.c (sL.le le7) (sP.le le7) (hTx.le le7) (by omega) (by omega) fun H8 le8 => bcd (fun h => absurd (by rw [← hps, rg_lin hk0]) h) fun _ => ?_)
      refine ⟨fun i Hy => ∃ i' : Nat, i = (i' : Nat) ∧ i' ≤ l7 ∧ Hy = H8, fun i _ => ((l7 : Int) - i).toNat, ⟨0, rfl, Nat.zero_le _, rfl⟩, ?_⟩
      rintro i Hy ⟨i, rfl, gi, rfl⟩
      have le78 := le7.trans le8
      refine bcd (fun hlt => ?_) fun hlt => ?_
      · have go : ∀ w : UInt8, w = (if rgF k dead + i < k then 33 else 32) → centolaw14_ViewRings.k4 Hy (fun i Hy' => ∃ i' : Nat, i = (i' : Nat) ∧ i' ≤ l7 ∧ Hy' = Hy) (fun r H' => r = true ∧ Le H H') ((rgF k dead : Nat) : Int) ((i : Nat) : Int) (fun i _ => ((l7 : Int) - i).toNat) l7 p7 ((w.toNat : Nat) : Int) Hy := by
          intro w hw
          have eg : (shL (rgL k t dead) ps)[i]'(by rw [hsl]; omega) = ⟨1, ((rgF k dead + i : Nat) : Int), w, [UInt8.ofNat (97 + (rgF k dead + i) % 26), 10]⟩ := by
            simp only [← hps, rg_shL hk0, List.getElem_map, List.getElem_range]
            rw [← hw]
          refine sn_nil (s7.le le8) (by omega) hlt fun b o hi e => ?_
          simp only [Int.toNat_natCast] at e ⊢
          rw [eg] at e
          refine ldI_i (e 1 _ rfl) (chk (by omega) (bcd (fun h => absurd (by show ((rgF k dead + i : Nat) : Int) = _; omega) h) fun _ => ?_))
          refine sn_nil (s7.le le8) (by omega) hlt fun b o hi e => ?_
          simp only [Int.toNat_natCast] at e ⊢
          rw [eg] at e
          exact ldI_i (e 2 _ rfl) (bcd (fun h => absurd rfl h) fun _ => chk (by omega) ⟨⟨i + 1, by omega, by omega, by trivial⟩, by first | omega | (dsimp only; omega)⟩)
        refine chk (by omega) (bcd (fun h => go 33 (by rw [if_pos (by omega)])) fun h => go 32 (by rw [if_neg (by omega)]))
      · refine (d.le le78).get (view_Conflicts.c (sL.le le78) (sP.le le78) (hTx.le le78) (by omega) (by omega) fun H9 le9 => chk (by omega) ⟨?_, le0.trans (l0x.trans (le78.trans le9))⟩)
        rw [← hps, rg_cnf hk0]
        exact decide_eq_true (by omega)
    refine bc_i (fun h => fin _ (by rw [h]; rfl)) fun h => fin _ (by rw [h]; rfl)
  refine bcd (fun hlt => bc_i (fun hdd => ?_) fun hdd => ?_) fun hlt => ?_
  · obtain ⟨lp, ll, lc, rL, sL, hL⟩ := hF.getL
    refine ldL_i rL (hF.dead (i := i) (by rw [lsD_len]; omega) (v := true) (fun H4 hF4 => chk (by omega) ⟨⟨i + 1, by omega, by omega, .inr hdd, ?_⟩, by first | omega | (dsimp only; omega)⟩) rL)
    rw [lsD_set (by omega)] at hF4
    exact hF4
  · have hi : i = 0 := by
      rcases hd with h | h
      · exact h
      · rw [h] at hdd; cases hdd
    exact key (by rw [hi, hdd]; rfl)
  · have : i = k := by omega
    subst this
    have hdd : dead = true := by
      rcases hd with h | h
      · omega
      · exact h
    exact key (by rw [hdd]; rfl)

theorem viewRings_own : ownKnob Tryd.prog.godebug = none := by kernel_rfl
theorem viewRings_laid : laidOutB Tryd.prog = true := by kernel_rfl
set_option maxRecDepth 100000 in
theorem viewRings_lifted (os : Os) (started : os.Started) (H : Type) (enc : TypeId × Value → H) :
    ReturnsInHanded {} Tryd.checked os 10 .any (fun w args => (Rows.viewRingsSpec.pre enc Tryd.prog Tryd.f10 [] false w args ∧ laidMetH Tryd.prog laidTz w) ∧ sizedMet enc Tryd.prog Tryd.f10 (OpenSpec.ofChange Rows.viewRingsSpec) false w args)
      (Rows.viewRingsSpec.post enc Tryd.prog Tryd.f10 false true false false) := by
  refine returnsInHanded_of_change_and (C := Tryd.checked) (X := fun w _ => laidMetH Tryd.prog laidTz w) (fun _ _ _ hh h => h.of_heap hh) viewRings_own started (by kernel_rfl) Tryd.func10
    (ChangeSpec.witness_shaped (enc := enc) (C := Tryd.checked) (os := os) (X := fun w _ => laidMetH Tryd.prog laidTz w) false (World.doorLaid Tryd.prog 400 os) #[.int .u8 0, .int .u8 0, .bool false] 8 rfl (World.shaped_of_RefB (by kernel_rfl) (by kernel_rfl)) (by kernel_rfl) (by kernel_rfl) (by kernel_rfl) (door_met os _)) ?_
  intro W base args ds gs before hval0 hW _ _ hL _
  have hval : ∀ (j : Nat) t v, Tryd.f10.params[j]? = some t → args[j]? = some v → Value.okWide Tryd.prog W .any base t v := hval0
  have hW' := hW
  obtain ⟨p, q, hA0, hV, rfl, hfz, hnd⟩ := hW
  have hA : DataW.TrodAll enc Tryd.prog W 0 (fun _ => true) true Tryd.f10.params.toList args.toList ds p := hA0
  rw [Tryd.params10] at hA hval
  obtain ⟨v0, v1, v2, d0, d1, d2, p0, p1, p2, rfl, rfl, rfl, h0, h1, h2⟩ := trodAll_three hA
  obtain ⟨x0, rfl, rfl, rfl, w0⟩ := open_int Tryd.underlying5 (hval 0 5 v0 rfl rfl) h0
  obtain ⟨x1, rfl, rfl, rfl, w1⟩ := open_int Tryd.underlying5 (hval 1 5 v1 rfl rfl) h1
  obtain ⟨x2, rfl, rfl, rfl⟩ := open_bool Tryd.underlying4 (hval 2 4 v2 rfl rfl) h2
  refine (calls_true (viewRings_law w0 w1 x2 (tz_of_laid hL)) Tryd.func10 (by kernel_rfl)).mono fun e W' ⟨he, hk⟩ => ?_
  subst he
  exact ⟨_, rfl, post_true viewRings_laid hW' (by kernel_rfl) rfl rfl rfl Tryd.underlying4 hk⟩

theorem viewRings_row : Rows.ViewRingsSaid :=
  OpenClaim.holds_of_wide 10 Tryd.f10 rfl rfl rfl rfl rfl rfl rfl ⟨rfl, rfl, rfl, rfl, rfl⟩ rfl rfl rfl rfl rfl (by kernel_rfl) Tryd.func10 (by kernel_rfl)
    (of_decide_eq_true (by kernel_rfl)) (by unfold Func.isWrapper; first | (rw [if_pos (by decide +kernel)]; kernel_rfl) | (rw [if_neg (by decide +kernel)]; exact ⟨rfl, rfl⟩))
    (fun os started H enc _ => viewRings_lifted os started H enc)

theorem viewRings_card : Rows.ViewRingsCardSaid :=
  Claim7.holds_tied_plain_at .later [] [.data] true (true, "f1eba887bf2a15496a222adcf75d60a0462008cefa76589392225645476a6e39") false
    viewRings_row (fun _ h => by cases h) (by kernel_rfl) (fun _ h => by cases h) viewRings_row_tie rfl ⟨rfl, rfl⟩ (by kernel_rfl) rfl
    (fun f fn hf hfn => by
      obtain rfl : f = 10 := Option.some.inj ((show Tryd.prog.funcNamed Rows.viewRingsRow.func = some 10 by kernel_rfl).symm.trans hf) |>.symm
      obtain rfl : fn = Tryd.f10 := (Option.some.inj (Tryd.func10.symm.trans hfn)).symm
      exact ⟨by kernel_rfl, fun j t ht => by
        rw [Tryd.params10] at ht
        have hm : t ∈ [4, 5] := by
          have := Array.mem_of_getElem? ht
          simp at this
          first | (rcases this with rfl | rfl | rfl <;> simp) | simp [this]
        have hall : ([4, 5].all fun u => !Tryd.prog.wantsStandIn u) = true := by kernel_rfl
        exact (show Tryd.prog.wantsStandIn t = false by simpa using List.all_eq_true.1 hall t hm)⟩)
    (by kernel_rfl)
end Go.Proofs.YteijgmmjgbgffaaDoor
