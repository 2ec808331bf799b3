/- Contracts. -/
import Derived.Test.YteijgmmjgbgffaaDoorO6
namespace Go.Proofs.YteijgmmjgbgffaaDoor
open Go.V
theorem ofM_prs {M : Nat → Nat → Bool} {n : Nat} (h : Sup M n) : ofM (prs M n) n = M := by
  funext x y
  unfold ofM
  rw [Bool.eq_iff_iff, Bool.and_eq_true, List.any_eq_true, decide_eq_true_eq]
  constructor
  · rintro ⟨_, p, hp, he⟩
    obtain ⟨a, b, _, _, hm, rfl⟩ := prs_mem.1 hp
    simp only [decide_eq_true_eq] at he
    rw [← show a = x by omega, ← show b = y by omega]; exact hm
  · intro hm
    have := h.lt hm
    exact ⟨this, ((x : Int), (y : Int)), prs_mem.2 ⟨x, y, this.1, this.2, hm, rfl⟩, by simp⟩
theorem okP_prs {M : Nat → Nat → Bool} {n : Nat} : okP (prs M n) n = true := by
  unfold okP
  rw [List.all_eq_true]
  intro p hp
  obtain ⟨a, b, ha, hb, _, rfl⟩ := prs_mem.1 hp
  simp only [decide_eq_true_eq]
  omega

theorem centoref2_Some.c {n : Int} {lp : Option Addr} {ll lc : Nat} {l : List (Int × Int)} {H : Hp} {K : Option Addr → Hp → Prop} (hl : Sn 2 pairC H lp ll lc l) (hll : l.length ≤ 1000000000)
    (h3 : ∀ R O H', RFO H' R O (max 0 (min n 200)).toNat (ofM l (max 0 (min n 200)).toNat) → (∀ b ∈ O, H b = none) → Le H H' → K (some ⟨R, 0, none⟩) H') : centoref2_Some.C n lp ll lc H K := by
  apply centoref2_Some.of
  have hlen := hl.len
  refine centoref2_New.c fun R O H1 u1 hO le1 => ?_
  generalize hN : (max 0 (min n 200)).toNat = N at *
  refine ⟨fun t H' => ∃ i : Nat, t = i ∧ i ≤ ll ∧ Le H H' ∧ RFO H' R O N (ofM (l.take i) N), fun t _ => (ll - t).toNat, ⟨0, rfl, by omega, le1, u1.congr fun x y => by simp [ofM]⟩, ?_⟩
  rintro t H2 ⟨i, rfl, hi, le2, u2⟩
  refine bcd (fun h => ?_) (fun h => ?_)
  · have hil : i < l.length := by omega
    have hts := List.take_succ_eq_append_getElem hil
    have hadd := ofM_snoc (l := l.take i) (n := N) (p := l[i])
    rw [← hts] at hadd
    have skip : ¬ (0 ≤ l[i].1 ∧ l[i].1 < (N : Int) ∧ 0 ≤ l[i].2 ∧ l[i].2 < (N : Int)) → CHK .i64 ((i : Int) + 1) fun x55 => (∃ i' : Nat, x55 = i' ∧ i' ≤ ll ∧ Le H H2 ∧ RFO H2 R O N (ofM (l.take i') N)) ∧ (ll - x55).toNat < (ll - (i : Int)).toNat := fun hb =>
      chk (by omega) ⟨⟨i + 1, by omega, by omega, le2, by rw [hadd, addM_out hb]; exact u2⟩, by omega⟩
    refine snA (hl.le le2) (by omega) (by omega) fun _ => ?_
    simp only [Int.toNat_natCast]
    refine centoref2_Rel_Is.c u2 ?_
    refine bcd (fun ha => ?_) (fun ha => bcF (skip fun g => ha ⟨g.1, g.2.1⟩))
    refine snB (hl.le le2) (by omega) (by omega) fun _ => ?_
    simp only [Int.toNat_natCast]
    refine centoref2_Rel_Is.c u2 ?_
    unfold centoref2_Some.k1
    refine bcd (fun hb' => ?_) (fun hb' => skip fun g => hb' g.2.2)
    obtain ⟨x, hx⟩ : ∃ k : Nat, l[i].1 = k := ⟨l[i].1.toNat, by omega⟩
    obtain ⟨y, hy⟩ : ∃ k : Nat, l[i].2 = k := ⟨l[i].2.toNat, by omega⟩
    have hxn : x < N := by omega
    have hyn : y < N := by omega
    obtain ⟨B, bs, hOe, u2⟩ := u2
    obtain ⟨p, c, g1, _, g3⟩ := u2.hm
    obtain rfl := g3.resolve_left (by omega)
    refine nil ?_
    refine ldL_i (by rw [Nat.zero_add]; exact g1) ?_
    refine snA (hl.le le2) (by omega) (by omega) fun _ => ?_
    simp only [Int.toNat_natCast]
    refine idxN x hx hxn ?_
    refine nil ?_
    refine ldL_i (by rw [Nat.zero_add]; exact u2.ptr x (by rw [u2.lb]; exact hxn)) ?_
    refine snB (hl.le le2) (by omega) (by omega) fun _ => ?_
    simp only [Int.toNat_natCast]
    refine idxN y hy hyn ?_
    refine nil ?_
    refine st0 (u2.row x (by rw [u2.lb]; exact hxn) y hyn) ?_
    have hset := u2.set hxn hyn (v := true)
    rw [addSet hxn hyn, ← hx, ← hy, ← hadd] at hset
    have mw : Mod (R :: B :: bs) H2 (wr H2 (bs[x]'(by rw [u2.lb]; exact hxn)) y (.bool true)) := Mod.refl.wr (.inl (by simp))
    exact chk (by omega) ⟨⟨i + 1, by omega, by omega, mw.le le2 (by rw [← hOe]; exact hO), ⟨B, bs, hOe, hset⟩⟩, by first | omega | (dsimp only; omega)⟩
  · have e1 : l.take i = l := List.take_of_length_le (by omega)
    rw [e1] at u2
    exact h3 R O H2 u2 hO le2

/-- How many elements. -/
def cap40 (n : Int) : Nat := (max 0 (min n 40)).toNat
theorem srtS_len {M : Nat → Nat → Bool} {n : Nat} : ∀ k rem, (srtS M n k rem).length ≤ k * n
  | 0, _ => by simp [srtS]
  | k + 1, rem => by
    rw [srtS, Nat.add_mul, Nat.one_mul]
    split
    · simp
    · rename_i h _
      rw [List.length_append]
      have h1 := clsM_len (M := M) (n := n) (a := h)
      have h2 := srtS_len (M := M) (n := n) k (rem.erase h)
      omega
theorem srt_len {M : Nat → Nat → Bool} {n : Nat} (hn : n ≤ 200) : (srt M n).length ≤ 40000 := by
  have h1 := srtS_len (M := M) (n := n) (hdsM M n).length (hdsM M n)
  have h2 := hds_len (M := M) (n := n)
  have h3 : (hdsM M n).length * n ≤ 200 * 200 := Nat.mul_le_mul (by omega) hn
  unfold srt; omega
theorem red_len {M : Nat → Nat → Bool} {n : Nat} (hn : n ≤ 200) : (red M n).length ≤ 40200 := by
  have h2 := hds_len (M := M) (n := n)
  have := redTo_len (M := M) (hs := hdsM M n) (i := (hdsM M n).length) (k := 0) (Nat.le_refl _) (Nat.zero_le _) (by omega)
  rwa [redTo_end] at this
end Go.Proofs.YteijgmmjgbgffaaDoor
