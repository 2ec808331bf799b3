/- Contracts. -/
import Derived.Test.YtjfohhgmapipnaaN3
namespace Go.Proofs.Ytjfohhgmapipnaa
open Go.V
/-! ### Load -/
def dataOf (l : List BL) (a len : Nat) : BL := (((l.drop (2 + a * secN l.length)).take (secN l.length)).flatten).take len
theorem best_ok {N m : Nat} {x0 x1 : Option Hd} (h0 : okH N m x0) (h1 : okH N m x1) : (best x0 x1).1.a ≤ 1 ∧ (best x0 x1).2 ≤ 1 ∧ (best x0 x1).1.l ≤ roomN N ∧ (best x0 x1).1.n ≤ m := by
  unfold best
  have e0 : (nw (⟨0, 1, 0⟩, 1) 0 x0).1.a ≤ 1 ∧ (nw (⟨0, 1, 0⟩, 1) 0 x0).2 ≤ 1 ∧ (nw (⟨0, 1, 0⟩, 1) 0 x0).1.l ≤ roomN N ∧ (nw (⟨0, 1, 0⟩, 1) 0 x0).1.n ≤ m := by
    cases x0 with
    | none => exact ⟨by decide, by decide, Nat.zero_le _, Nat.zero_le _⟩
    | some g =>
      obtain ⟨g0, g1, g2, g3⟩ := h0
      rw [nw_gt (by dsimp only; omega)]
      exact ⟨g2, Nat.zero_le _, g3, g1⟩
  cases x1 with
  | none => exact e0
  | some g =>
    obtain ⟨g0, g1, g2, g3⟩ := h1
    by_cases e : g.n ≤ (nw (⟨0, 1, 0⟩, 1) 0 x0).1.n
    · rw [nw_le e]; exact e0
    · rw [nw_gt e]; exact ⟨g2, Nat.le_refl _, g3, g1⟩
theorem flat_len {l : List BL} (h : ∀ x ∈ l, x.length = 64) : l.flatten.length = 64 * l.length := by
  induction l with
  | nil => rfl
  | cons x l ih => rw [List.flatten_cons, List.length_append, ih fun y hy => h y (by simp [hy]), h x (by simp), List.length_cons]; omega
theorem flat64_take {l : List BL} (h : ∀ x ∈ l, x.length = 64) {j n : Nat} (hn : n ≤ 64 * j) : ((l.take j).flatten).take n = l.flatten.take n := by
  by_cases hj : j ≤ l.length
  · have e : l.flatten = (l.take j).flatten ++ (l.drop j).flatten := by rw [← List.flatten_append, List.take_append_drop]
    rw [e, List.take_append_of_le_length]
    rw [flat_len fun x hx => h x (List.mem_of_mem_take hx), List.length_take]; omega
  · rw [show l.take j = l from List.take_of_length_le (by omega)]
section
variable {H : Hp} {d : Nat} {O : List Nat} {s : DS}
theorem slots_Load.off {K : ByteArray → Int → Hp → Prop} (hu : Dk H d O s) (hw : s.w.length ≤ 1000000000) (hN : 21 ≤ s.l.length) (off : ¬ s.on) (hK : ∀ H', Le H H' → K (mkB []) 23 H') : slots_Load.C (some ⟨d, 0, none⟩) H K := by
  apply slots_Load.of
  refine slots_newest.off hu hw hN off fun H1 le1 => ?_
  intro b9 hb9
  have r9 : R4 (upd H1 b9 [.int .u64 0, .int .i64 0, .int .i64 0, .int .i64 0]) b9 0 0 0 0 := R4.new
  have le2 : Le H (upd H1 b9 [.int .u64 0, .int .i64 0, .int .i64 0, .int .i64 0]) := le1.trans (Le.upd hb9)
  refine r9.put fun H3 r3 m3 => bcd (fun _ => ?_) fun h => absurd h (by decide)
  exact hK H3 (m3.le le2 (by simpa using none_of_le le1 hb9))
theorem slots_Load.c {K : ByteArray → Int → Hp → Prop} {N m : Nat} {x0 x1 : Option Hd} (hu : Dk H d O s) (h : Ok2 s N m x0 x1) (on : s.on) (h0 : (best x0 x1).1.n = 0 → ∀ H', Le H H' → K (mkB []) 25 H') (hK : (best x0 x1).1.n ≠ 0 → ∀ H', Le H H' → K (mkB (dataOf s.l (best x0 x1).1.a (best x0 x1).1.l)) 0 H') : slots_Load.C (some ⟨d, 0, none⟩) H K := by
  have hN := h.big
  have hlen := h.len
  have hbest := best_ok h.ok0 h.ok1
  apply slots_Load.of
  refine slots_newest.c hu h on fun H1 le1 => ?_
  generalize best x0 x1 = bb at *
  obtain ⟨⟨n, a, l⟩, at'⟩ := bb
  dsimp only at *
  intro b9 hb9
  have r9 : R4 (upd H1 b9 [.int .u64 0, .int .i64 0, .int .i64 0, .int .i64 0]) b9 0 0 0 0 := R4.new
  have le2 : Le H (upd H1 b9 [.int .u64 0, .int .i64 0, .int .i64 0, .int .i64 0]) := le1.trans (Le.upd hb9)
  refine r9.put fun H3 r3 m3 => bcd (fun h => absurd rfl h) fun _ => ?_
  have le3 := m3.le le2 (by simpa using none_of_le le1 hb9)
  clear r9 le2 m3
  refine ldI_i r3.1 (bcd (fun hz => h0 (by omega) H3 le3) fun hz => ?_)
  have hK := hK (by omega)
  intro b20 hb20
  have hB : Bd H3 (upd H3 b20 ([.pointer none, .slice none 0 0] ++ [tyM 99 0 0])) b20 none 0 0 [] := Bd.new hb20 (by rw [upd, if_pos rfl])
  have le4 : Le H3 (upd H3 b20 ([.pointer none, .slice none 0 0] ++ [tyM 99 0 0])) := Le.upd hb20
  generalize upd H3 b20 ([.pointer none, .slice none 0 0] ++ [tyM 99 0 0]) = H4 at hB le4
  refine ldI_i (r3.le le4).2.1 (slots_sectors.c (hu.le (le3.trans le4)) (by omega) ⟨(r3.le le4).2.1, ?_⟩)
  rw [hlen]
  have hS : secN N ≤ 500 ∧ 2 + 2 * secN N ≤ N := by unfold secN; omega
  have hl64 := roomN_sec hbest.2.2.1 hN.1
  have haS : a * secN N ≤ secN N := by
    have := Nat.mul_le_mul_right (secN N) hbest.1
    omega
  refine chk ⟨by omega, by omega⟩ (chk ⟨by omega, by omega⟩ ?_)
  rw [show (2 : Int) + ((a : Nat) : Int) * ((secN N : Nat) : Int) = ((2 + a * secN N : Nat) : Int) by push_cast; rfl]
  generalize hst : 2 + a * secN N = st' at *
  have hX : ∀ x ∈ (s.l.drop st').take (secN N), x.length = 64 := fun x hx => h.c64 x (List.mem_of_mem_drop (List.mem_of_mem_take hx))
  have hd : dataOf s.l a l = (((s.l.drop st').take (secN N)).flatten).take l := by unfold dataOf; rw [hlen, hst]
  rw [hd] at hK
  generalize hXe : (s.l.drop st').take (secN N) = X at *
  have hXl : X.length = secN N := by rw [← hXe, List.length_take, List.length_drop, hlen]; omega
  refine ⟨fun i H' => ∃ j p cc k, i = ((st' + j : Nat) : Int) ∧ j ≤ secN N ∧ Bd H3 H' b20 p cc k ((X.take j).flatten) ∧ k = 0 ∧ Le H3 H' ∧ 64 * j < l + 64, fun i _ => ((N : Int) - i).toNat,
    ⟨0, none, 0, 0, rfl, Nat.zero_le _, hB, rfl, le4, by omega⟩, ?_⟩
  clear hB le4
  rintro i H5 ⟨j, p, cc, k, rfl, gj, hB, rfl, le5, hj64⟩
  have hXj : ((X.take j).flatten).length = 64 * j := by rw [flat_len fun x hx => hX x (List.mem_of_mem_take hx), List.length_take]; omega
  refine ldI_i (r3.le le5).2.2.1 (strings_Builder_Len.c hB ⟨(r3.le le5).2.2.1, ?_⟩)
  rw [hXj]
  refine bcd (fun hlt => ?_) (fun hlt => ?_)
  · refine sector_Disk_Read.c (hu.le (le3.trans le5)) (by rw [h.w0]; exact Nat.zero_le _) fun H6 le6 => ?_
    have hfit : s.fits ((st' + j : Nat) : Int) := ⟨by omega, by rw [hlen]; omega⟩
    have hre : s.readE ((st' + j : Nat) : Int) = 0 := by unfold DS.readE; rw [if_pos on, if_pos hfit]
    have hjX : j < X.length := by omega
    have hrd : s.read ((st' + j : Nat) : Int) = X[j] := by
      unfold DS.read
      rw [if_pos on, if_pos hfit, h.w0, Int.toNat_natCast, List.getD_eq_getElem?_getD]
      have : X[j]? = s.l[st' + j]? := by rw [← hXe, List.getElem?_take, if_pos (by omega), List.getElem?_drop]
      rw [← this, List.getElem?_eq_getElem hjX]; rfl
    rw [hre, hrd]
    refine bcd (fun h => absurd rfl h) fun _ => ?_
    have h64 : X[j].length = 64 := hX _ (List.getElem_mem hjX)
    refine strings_Builder_WriteString.c (hB.le le6) (le5.trans le6) (.inl rfl) (by rw [hXj, mkB_size, h64]; omega) fun p' c' k' H7 hB7 le7 _ _ hch => ?_
    have hk' : k' = 0 := by rcases hch with ⟨h, _⟩ | ⟨h, _⟩ <;> exact h
    subst hk'
    refine chk (by omega) ⟨⟨j + 1, p', c', 0, by omega, by omega, ?_, rfl, le7, by omega⟩, by first | omega | (dsimp only; omega)⟩
    rw [List.take_succ_eq_append_getElem hjX, List.flatten_append]
    simpa [mkB_data] using hB7
  · refine ldI_i (r3.le le5).2.2.1 (strings_Builder_String.c hB le5 (by rw [hXj]; omega) fun H6 hB6 le6 _ => ⟨(r3.le le6).2.2.1, ?_⟩)
    show BND none (some ((l : Nat) : Int)) (mkB ((X.take j).flatten)).size (mkB ((X.take j).flatten)).size _
    refine bnd01 l rfl (by rw [mkB_size, hXj]; omega) ?_
    show K ((mkB ((X.take j).flatten)).extract 0 l) 0 H6
    rw [ext_take, flat64_take hX (by omega)]
    exact hK H6 (le3.trans le6)
end
end Go.Proofs.Ytjfohhgmapipnaa
