/- Contracts. -/
import Derived.Test.YtcmooaimhloonaaDoorO6
namespace Go.Proofs.YtcmooaimhloonaaDoor
open Go.V
theorem centolaw3_samePairs.c {ap bp : Option Addr} {al ac bl bc' : Nat} {a b : List (Int × Int)} {H : Hp} {K : Bool → Hp → Prop} (ha : Sn 2 pairC H ap al ac a) (hb : Sn 2 pairC H bp bl bc' b) (hl : a.length ≤ 1000000000) (hK : K (decide (a = b)) H) : centolaw3_samePairs.C ap al ac bp bl bc' H K := by
  apply centolaw3_samePairs.of
  have la := ha.len
  have lb := hb.len
  have no : ¬ a = b → K false H := fun h => by rwa [decide_eq_false h] at hK
  refine bcd (fun h => no fun e => h (by rw [la, lb, e])) (fun h => ?_)
  refine ⟨fun i Hx => ∃ i' : Nat, i = i' ∧ i' ≤ al ∧ H = Hx ∧ a.take i' = b.take i', fun i _ => (al - i).toNat, ⟨0, rfl, by omega, rfl, rfl⟩, ?_⟩
  rintro i _ ⟨i, rfl, hi, rfl, he⟩
  refine bcd (fun h => ?_) (fun h => ?_)
  · have hia : i < a.length := by omega
    have hib : i < b.length := by omega
    refine snP ha (by omega) (by omega) fun _ => snP hb (by omega) (by omega) fun _ => ?_
    simp only [Int.toNat_natCast]
    refine bcn (fun h => no fun e => ?_) (fun h => ?_)
    · subst e; simp at h
    · have e : a[i] = b[i] := by
        rw [Bool.and_eq_true, decide_eq_true_eq, decide_eq_true_eq] at h
        exact Prod.ext h.1 h.2
      exact chk (by omega) ⟨⟨i + 1, by omega, by omega, by trivial, by rw [List.take_succ_eq_append_getElem hia, List.take_succ_eq_append_getElem hib, he, e]⟩, by first | omega | (dsimp only; omega)⟩
  · have e : a = b := by
      rw [List.take_of_length_le (by omega), List.take_of_length_le (by omega)] at he
      exact he
    rwa [decide_eq_true e] at hK

theorem ofM_prs {M : Nat → Nat → Bool} {n : Nat} (h : Sup M n) : ofM (prs M n) n = M := by
  funext x y
  unfold ofM
  rw [Bool.eq_iff_iff, Bool.and_eq_true, List.any_eq_true, decide_eq_true_eq]
  constructor
  · rintro ⟨_, p, hp, he⟩
    obtain ⟨a, b, _, _, hm, rfl⟩ := prs_mem.1 hp
    simp only [decide_eq_true_eq] at he
    rw [← show a = x by omega, ← show b = y by omega]; exact hm
  · intro hm
    have := h.lt hm
    exact ⟨this, ((x : Int), (y : Int)), prs_mem.2 ⟨x, y, this.1, this.2, hm, rfl⟩, by simp⟩
theorem okP_prs {M : Nat → Nat → Bool} {n : Nat} : okP (prs M n) n = true := by
  unfold okP
  rw [List.all_eq_true]
  intro p hp
  obtain ⟨a, b, ha, hb, _, rfl⟩ := prs_mem.1 hp
  simp only [decide_eq_true_eq]
  omega

theorem centoref2_Some.c {n : Int} {lp : Option Addr} {ll lc : Nat} {l : List (Int × Int)} {H : Hp} {K : Option Addr → Hp → Prop} (hl : Sn 2 pairC H lp ll lc l) (hll : l.length ≤ 1000000000)
    (h3 : ∀ R O H', RFO H' R O (max 0 (min n 200)).toNat (ofM l (max 0 (min n 200)).toNat) → (∀ b ∈ O, H b = none) → Le H H' → K (some ⟨R, 0, none⟩) H') : centoref2_Some.C n lp ll lc H K := by
  apply centoref2_Some.of
  have hlen := hl.len
  refine centoref2_New.c fun R O H1 u1 hO le1 => ?_
  generalize hN : (max 0 (min n 200)).toNat = N at *
  refine ⟨fun t H' => ∃ i : Nat, t = i ∧ i ≤ ll ∧ Le H H' ∧ RFO H' R O N (ofM (l.take i) N), fun t _ => (ll - t).toNat, ⟨0, rfl, by omega, le1, u1.congr fun x y => by simp [ofM]⟩, ?_⟩
  rintro t H2 ⟨i, rfl, hi, le2, u2⟩
  refine bcd (fun h => ?_) (fun h => ?_)
  · have hil : i < l.length := by omega
    have hts := List.take_succ_eq_append_getElem hil
    have hadd := ofM_snoc (l := l.take i) (n := N) (p := l[i])
    rw [← hts] at hadd
    have skip : ¬ (0 ≤ l[i].1 ∧ l[i].1 < (N : Int) ∧ 0 ≤ l[i].2 ∧ l[i].2 < (N : Int)) → CHK .i64 ((i : Int) + 1) fun x55 => (∃ i' : Nat, x55 = i' ∧ i' ≤ ll ∧ Le H H2 ∧ RFO H2 R O N (ofM (l.take i') N)) ∧ (ll - x55).toNat < (ll - (i : Int)).toNat := fun hb =>
      chk (by omega) ⟨⟨i + 1, by omega, by omega, le2, by rw [hadd, addM_out hb]; exact u2⟩, by omega⟩
    refine snA (hl.le le2) (by omega) (by omega) fun _ => ?_
    simp only [Int.toNat_natCast]
    refine centoref2_Rel_Is.c u2 ?_
    refine bcd (fun ha => ?_) (fun ha => bcF (skip fun g => ha ⟨g.1, g.2.1⟩))
    refine snB (hl.le le2) (by omega) (by omega) fun _ => ?_
    simp only [Int.toNat_natCast]
    refine centoref2_Rel_Is.c u2 ?_
    unfold centoref2_Some.k1
    refine bcd (fun hb' => ?_) (fun hb' => skip fun g => hb' g.2.2)
    obtain ⟨x, hx⟩ : ∃ k : Nat, l[i].1 = k := ⟨l[i].1.toNat, by omega⟩
    obtain ⟨y, hy⟩ : ∃ k : Nat, l[i].2 = k := ⟨l[i].2.toNat, by omega⟩
    have hxn : x < N := by omega
    have hyn : y < N := by omega
    obtain ⟨B, bs, hOe, u2⟩ := u2
    obtain ⟨p, c, g1, _, g3⟩ := u2.hm
    obtain rfl := g3.resolve_left (by omega)
    refine nil ?_
    refine ldL_i (by rw [Nat.zero_add]; exact g1) ?_
    refine snA (hl.le le2) (by omega) (by omega) fun _ => ?_
    simp only [Int.toNat_natCast]
    refine idxN x hx hxn ?_
    refine nil ?_
    refine ldL_i (by rw [Nat.zero_add]; exact u2.ptr x (by rw [u2.lb]; exact hxn)) ?_
    refine snB (hl.le le2) (by omega) (by omega) fun _ => ?_
    simp only [Int.toNat_natCast]
    refine idxN y hy hyn ?_
    refine nil ?_
    refine st0 (u2.row x (by rw [u2.lb]; exact hxn) y hyn) ?_
    have hset := u2.set hxn hyn (v := true)
    rw [addSet hxn hyn, ← hx, ← hy, ← hadd] at hset
    have mw : Mod (R :: B :: bs) H2 (wr H2 (bs[x]'(by rw [u2.lb]; exact hxn)) y (.bool true)) := Mod.refl.wr (.inl (by simp))
    exact chk (by omega) ⟨⟨i + 1, by omega, by omega, mw.le le2 (by rw [← hOe]; exact hO), ⟨B, bs, hOe, hset⟩⟩, by first | omega | (dsimp only; omega)⟩
  · have e1 : l.take i = l := List.take_of_length_le (by omega)
    rw [e1] at u2
    exact h3 R O H2 u2 hO le2

/-- How many elements. -/
def cap40 (n : Int) : Nat := (max 0 (min n 40)).toNat
theorem centolaw3_made.c {n : Int} {lp : Option Addr} {ll lc : Nat} {l : List (Int × Int)} {H : Hp} {K : Option Addr → Option Addr → Hp → Prop} (hl : Sn 2 pairC H lp ll lc l) (hll : l.length ≤ 1000000000) (hT : Tz H)
    (hK : ∀ R O m Om H', RLO H' R O (cap40 n) (ofM l (cap40 n)) → RFO H' m Om (cap40 n) (clo (ofM l (cap40 n)) (cap40 n)) → (∀ b ∈ O, H b = none) → Le H H' → K (some ⟨R, 0, none⟩) (some ⟨m, 0, none⟩) H') : centolaw3_made.C n lp ll lc H K := by
  apply centolaw3_made.of
  obtain ⟨k, hk⟩ : ∃ k : Nat, max (0 : Int) (min n 40) = k := ⟨(max 0 (min n 40)).toNat, by omega⟩
  have hc : cap40 n = k := by unfold cap40; omega
  rw [hc] at hK
  unfold centolaw3_made.F
  rw [hk]
  have hk40 : k ≤ 40 := by omega
  refine centoref2_Some.c hl hll fun m Om H1 v1 _ le1 => ?_
  rw [show (max 0 (min (k : Int) 200)).toNat = k by omega] at v1
  refine centoref2_Rel_Pairs.c v1 fun p l2 c H2 s2 _ le2 => ?_
  have hs := v1.sup
  have le12 := le1.trans le2
  have hpl : (prs (ofM l k) k).length ≤ 1000000000 := by
    have := prs_len_le (ofM l k) k
    have hk2 : k * k ≤ 1600 := Nat.mul_le_mul hk40 hk40
    omega
  refine rel_Of.c s2 hpl (hT.le le12) (fun h => by omega) (fun H3 _ _ h _ => ?_) (fun R O H3 _ _ _ u3 hO le3 => ?_)
  · rw [Int.toNat_natCast, okP_prs] at h; cases h
  · rw [Int.toNat_natCast, ofM_prs hs] at u3
    refine bcd (fun h => absurd rfl h) fun _ => ?_
    refine centoref2_Rel_Closure.c (v1.le (le2.trans le3)) fun m4 Om4 H4 v4 _ le4 => ?_
    exact hK _ O _ Om4 _ (u3.le le4) v4 (fun b hb => none_of_le le12 (hO b hb)) ((le12.trans le3).trans le4)

theorem centolaw3_same.c {ap bp : Option Addr} {al ac bl bc' : Nat} {a b : List Nat} {H : Hp} {K : Bool → Hp → Prop} (ha : Sl iv H ap al ac a) (hb : Sl iv H bp bl bc' b) (hl : a.length ≤ 1000000000) (hK : K (decide (a = b)) H) : centolaw3_same.C ap al ac bp bl bc' H K := by
  apply centolaw3_same.of
  have la := ha.len
  have lb := hb.len
  have no : ¬ a = b → K false H := fun h => by rwa [decide_eq_false h] at hK
  refine bcd (fun h => no fun e => h (by rw [la, lb, e])) (fun h => ?_)
  refine ⟨fun i Hx => ∃ i' : Nat, i = i' ∧ i' ≤ al ∧ H = Hx ∧ a.take i' = b.take i', fun i _ => (al - i).toNat, ⟨0, rfl, by omega, rfl, rfl⟩, ?_⟩
  rintro i _ ⟨i, rfl, hi, rfl, he⟩
  refine bcd (fun h => ?_) (fun h => ?_)
  · have hia : i < a.length := by omega
    have hib : i < b.length := by omega
    refine slI ha (g := fun (x : Nat) => (x : Int)) (fun _ => rfl) (by omega) (by omega) fun _ => ?_
    refine slI hb (g := fun (x : Nat) => (x : Int)) (fun _ => rfl) (by omega) (by omega) fun _ => ?_
    simp only [Int.toNat_natCast]
    refine bcd (fun h => no fun e => ?_) (fun h => ?_)
    · subst e; exact h rfl
    · have e : a[i] = b[i] := by omega
      exact chk (by omega) ⟨⟨i + 1, by omega, by omega, by trivial, by rw [List.take_succ_eq_append_getElem hia, List.take_succ_eq_append_getElem hib, he, e]⟩, by first | omega | (dsimp only; omega)⟩
  · have e : a = b := by
      rw [List.take_of_length_le (by omega), List.take_of_length_le (by omega)] at he
      exact he
    rwa [decide_eq_true e] at hK

theorem centolaw3_known.c {H : Hp} {K : Bool → Hp → Prop} (hT : Tz H) (hK : ∀ H', Le H H' → K true H') : centolaw3_known.C H K := by
  apply centolaw3_known.of
  intro b1 hb1
  have le1 : Le H (upd H b1 [.int .i64 0, .int .i64 1, .int .i64 1, .int .i64 0, .int .i64 1, .int .i64 3, .int .i64 2, .int .i64 0]) := .upd hb1
  have s1 : Sn 2 pairC (upd H b1 [.int .i64 0, .int .i64 1, .int .i64 1, .int .i64 0, .int .i64 1, .int .i64 3, .int .i64 2, .int .i64 0]) (some ⟨b1, 0, none⟩) 4 4 [(0, 1), (1, 0), (1, 3), (2, 0)] :=
    ⟨rfl, Nat.le_refl _, .inr ⟨b1, 0, rfl, fun i hi j v e => by
      rw [rd_upd_self]
      match i, hi with
      | 0, _ | 1, _ | 2, _ | 3, _ => match j, e with
        | 0, e => simp [pairC] at e; subst e; rfl
        | 1, e => simp [pairC] at e; subst e; rfl
        | j + 2, e => simp [pairC] at e⟩⟩
  generalize upd H b1 [.int .i64 0, .int .i64 1, .int .i64 1, .int .i64 0, .int .i64 1, .int .i64 3, .int .i64 2, .int .i64 0] = H1 at *
  refine centolaw3_made.c s1 (by decide) (hT.le le1) fun R O m Om H2 u2 _ _ le2 => ?_
  rw [show cap40 4 = 4 by decide] at u2
  refine order_Circles.c u2.rn fun p3 l3 c3 H3 s3 le3 => ?_
  rw [show crc (clo (ofM [(0, 1), (1, 0), (1, 3), (2, 0)] 4) 4) 4 = [[0, 1], [2], [3]] by decide +kernel] at s3
  have u3 := u2.le le3
  refine order_Sort.c u3.rn (by decide) fun p4 l4 c4 H4 s4 le4 => ?_
  rw [show srt (clo (ofM [(0, 1), (1, 0), (1, 3), (2, 0)] 4) 4) 4 = [2, 0, 1, 3] by decide +kernel] at s4
  have u4 := u3.le le4
  refine order_Reduce.c u4.rn (by decide) fun p5 l5 c5 H5 s5 _ _ le5 => ?_
  rw [show red (clo (ofM [(0, 1), (1, 0), (1, 3), (2, 0)] 4) 4) 4 = [(0, 3), (2, 0)] by decide +kernel] at s5
  have u5 := u4.le le5
  have s3' := s3.le (le4.trans le5)
  have s4' := s4.le le5
  have h3 := s3.len
  have h4 := s4.len
  have h5 := s5.len
  simp at h3 h4 h5
  subst h3 h4 h5
  refine bcd (fun _ => ?_) fun h => absurd rfl h
  refine s3'.at (k := 0) rfl (by decide) fun q lq cq hq _ _ => ?_
  have hlq := hq.len
  simp at hlq
  subst hlq
  refine bcd (fun _ => ?_) fun h => absurd rfl h
  refine s3'.at (k := 0) rfl (by decide) fun q lq cq hq _ _ => ?_
  have hlq := hq.len
  simp at hlq
  subst hlq
  refine slI hq (g := fun (x : Nat) => (x : Int)) (fun _ => rfl) (by decide) (by decide) fun _ => ?_
  refine bcd (fun _ => ?_) fun h => absurd rfl h
  refine bcd (fun _ => ?_) fun h => absurd rfl h
  refine slI s4' (g := fun (x : Nat) => (x : Int)) (fun _ => rfl) (by decide) (by decide) fun _ => ?_
  refine bcd (fun _ => ?_) fun h => absurd rfl h
  refine slI s4' (g := fun (x : Nat) => (x : Int)) (fun _ => rfl) (by decide) (by decide) fun _ => ?_
  refine bcd (fun _ => ?_) fun h => absurd rfl h
  refine slI s4' (g := fun (x : Nat) => (x : Int)) (fun _ => rfl) (by decide) (by decide) fun _ => ?_
  refine bcd (fun _ => ?_) fun h => absurd rfl h
  refine bcd (fun _ => ?_) fun h => absurd rfl h
  refine snP s5 (by decide) (by decide) fun _ => ?_
  refine bcT ?_
  refine order_IsOrder.c u5.rn (by decide) fun H6 le6 => ?_
  rw [show ordB (clo (ofM [(0, 1), (1, 0), (1, 3), (2, 0)] 4) 4) 4 = false by decide +kernel]
  refine bcT ?_
  have u6 := u5.le le6
  refine order_IsTotal.c (.inl ⟨rfl, rfl, rfl, u6.tz⟩) (by decide) fun H7 le7 => ?_
  rw [show totB (clo (fun _ _ => false) 0) 0 = true by decide +kernel]
  refine bcT ?_
  have u7 := u6.le le7
  refine order_Of.c u7.rn (by decide) fun p8 l8 c8 H8 s8 le8 => ?_
  have h8 := s8.len
  rw [show clss (clo (ofM [(0, 1), (1, 0), (1, 3), (2, 0)] 4) 4) 4 = [0, 0, 1, 2] by decide +kernel] at h8
  simp at h8
  subst h8
  refine bcd (fun _ => ?_) fun h => absurd rfl h
  have u8 := u7.le le8
  refine order_Of.c u8.rn (by decide) fun p9 l9 c9 H9 s9 le9 => ?_
  rw [show clss (clo (ofM [(0, 1), (1, 0), (1, 3), (2, 0)] 4) 4) 4 = [0, 0, 1, 2] by decide +kernel] at s9
  have h9 := s9.len
  simp at h9
  subst h9
  refine slI s9 (g := fun (x : Nat) => (x : Int)) (fun _ => rfl) (by decide) (by decide) fun _ => ?_
  exact hK _ ((((((((le1.trans le2).trans le3).trans le4).trans le5).trans le6).trans le7).trans le8).trans le9)
theorem srtS_len {M : Nat → Nat → Bool} {n : Nat} : ∀ k rem, (srtS M n k rem).length ≤ k * n
  | 0, _ => by simp [srtS]
  | k + 1, rem => by
    rw [srtS, Nat.add_mul, Nat.one_mul]
    split
    · simp
    · rename_i h _
      rw [List.length_append]
      have h1 := clsM_len (M := M) (n := n) (a := h)
      have h2 := srtS_len (M := M) (n := n) k (rem.erase h)
      omega
theorem srt_len {M : Nat → Nat → Bool} {n : Nat} (hn : n ≤ 200) : (srt M n).length ≤ 40000 := by
  have h1 := srtS_len (M := M) (n := n) (hdsM M n).length (hdsM M n)
  have h2 := hds_len (M := M) (n := n)
  have h3 : (hdsM M n).length * n ≤ 200 * 200 := Nat.mul_le_mul (by omega) hn
  unfold srt; omega
theorem red_len {M : Nat → Nat → Bool} {n : Nat} (hn : n ≤ 200) : (red M n).length ≤ 40200 := by
  have h2 := hds_len (M := M) (n := n)
  have := redTo_len (M := M) (hs := hdsM M n) (i := (hdsM M n).length) (k := 0) (Nat.le_refl _) (Nat.zero_le _) (by omega)
  rwa [redTo_end] at this
end Go.Proofs.YtcmooaimhloonaaDoor
