/- Contracts. -/
import Derived.Test.YteijgmmjgbgffaaDoorR2
namespace Go.Proofs.YteijgmmjgbgffaaDoor
open Go.V
/-! ### Through all pairs -/
theorem rel_each_rule {cap R n : Nat} {M : Nat → Nat → Bool} {O : List Nat} {H : Hp} {G : Int → Int → Hp → (Al → Hp → Prop) → Prop} {K : Al → Hp → Prop} (I : Nat → Nat → List Nat → Hp → Prop) (S0 : List Nat) (hb : RLO H R O n M) (hc : rd H cap 0 = some (.pointer (some ⟨R, 0, none⟩)))
    (hcS : cap ∉ S0) (hS : ∀ b ∈ S0, b ∉ O) (hg : gTab ∉ S0) (h0 : I 0 0 S0 H)
    (hle : ∀ a b S Hx Hy, I a b S Hx → Le Hx Hy → I a b S Hy)
    (hex : ∀ a b S Hx, I a b S Hx → ∀ x ∈ S, Hx x ≠ none)
    (hskip : ∀ a b S Hx, M a b = false → I a b S Hx → I a (b + 1) S Hx)
    (hrow : ∀ a i S Hx, n ≤ i → I a i S Hx → I (a + 1) 0 S Hx)
    (hstep : ∀ a b S Hx Kb, a < n → b < n → M a b = true → I a b S Hx → (∀ S' H', I a (b + 1) S' H' → Mod S Hx H' → (∀ x ∈ S', x ∈ S ∨ Hx x = none) → Kb Al.on H') → (∀ j up H', K (Al.off j up) H' → Kb (Al.off j up) H') → G (a : Nat) (b : Nat) Hx Kb)
    (hend : ∀ S Hx, I n 0 S Hx → K Al.on Hx) : rel_Rel_Each_1.I cap H G K := by
  apply rel_Rel_Each_1.of
  intro Lq b4 h4
  have le1 : Le H (upd H b4 [yv Lq]) := .upd h4
  have r4 : rd (upd H b4 [yv Lq]) b4 0 = some (yv Lq) := by rw [rd_upd_self]; rfl
  have i1 := hle _ _ _ _ _ h0 le1
  have hb4 : b4 ∉ S0 := fun h => hex _ _ _ _ h0 _ h h4
  have hb4O : b4 ∉ O := fun h => hb.there _ h h4
  refine ldP_i (le1.rd hc) ?_
  refine rel_Rel_Len.c (hb.le le1) ?_
  have hlim := hb.lim
  have hb1 := hb.le le1
  have hc1 := le1.rd hc
  generalize upd H b4 [yv Lq] = H1 at *
  clear h0 hb hc le1
  refine ⟨fun t Hx => ∃ (a : Nat) (S : List Nat), t = a ∧ a ≤ n ∧ I a 0 S Hx ∧ RLO Hx R O n M ∧ rd Hx cap 0 = some (.pointer (some ⟨R, 0, none⟩)) ∧ rd Hx b4 0 = some (yv Lq) ∧ cap ∉ S ∧ b4 ∉ S ∧ gTab ∉ S ∧ ∀ x ∈ S, x ∉ O, fun t _ => (n - t).toNat,
    ⟨0, S0, rfl, by omega, i1, hb1, hc1, r4, hcS, hb4, hg, hS⟩, ?_⟩
  rintro t H2 ⟨a, S, rfl, ha, hI, u2, c2, r2, s1, s2, s3, s4⟩
  refine bcd (fun h => ?_) (fun h => ?_)
  · have han : a < n := by omega
    intro b5 h5
    have r5 : rd (upd H2 b5 [.int .i64 0]) b5 0 = some (.int .i64 0) := by rw [rd_upd_self]; rfl
    refine st r5 ?_
    have le3 : Le H2 (wr (upd H2 b5 [.int .i64 0]) b5 0 (.int .i64 (a : Int))) := (Le.upd h5).wr h5
    have r5' : rd (wr (upd H2 b5 [.int .i64 0]) b5 0 (.int .i64 (a : Int))) b5 0 = some (.int .i64 (a : Int)) := rd_wr_self r5
    have hb5 : b5 ∉ S := fun h => hex _ _ _ _ hI _ h h5
    generalize wr (upd H2 b5 [.int .i64 0]) b5 0 (.int .i64 (a : Int)) = H3 at *
    have u3 := u2.le le3
    have ⟨B, rs, qs, hO, v3⟩ := u3
    obtain ⟨c, hd, _⟩ := v3.hd
    refine ldP_i (le3.rd c2) ?_
    refine nil ?_
    refine ldL_i hd ?_
    refine ldI_i r5' ?_
    refine idx han ?_
    refine nil ?_
    refine ldP_i (by rw [Nat.zero_add]; exact v3.ptr a (by rw [v3.lr]; exact han)) ?_
    refine bits_Row_Each.c fun cap' H4 hcap' hrc' le4 => ?_
    have br := (v3.br han).le le4
    have hq : (qs[a]'(by rw [v3.lq]; exact han)) ∈ O := by rw [hO]; exact v3.mem han
    have le34 := le3.trans le4
    show bits_Row_Each_1.I cap' H4 _ _
    refine each_rule (fun i Hx => ∃ S, I a i S Hx ∧ RLO Hx R O n M ∧ rd Hx cap 0 = some (.pointer (some ⟨R, 0, none⟩)) ∧ rd Hx b4 0 = some (yv Lq) ∧ rd Hx b5 0 = some (.int .i64 (a : Int)) ∧ Hx (qs[a]'(by rw [v3.lq]; exact han)) = H4 (qs[a]'(by rw [v3.lq]; exact han)) ∧ cap ∉ S ∧ b4 ∉ S ∧ b5 ∉ S ∧ gTab ∉ S ∧ ∀ x ∈ S, x ∉ O) br hrc'
      ⟨S, hle _ _ _ _ _ hI le34, u2.le le34, le34.rd c2, le34.rd r2, le4.rd r5', rfl, s1, s2, hb5, s3, s4⟩ ?_ ?_ ?_ ?_
    · rintro i Hx ⟨S, g1, g2, g3, g4, g5, g6, _⟩
      exact ⟨g2.tz, fun j _ _ => rd_eq g6⟩
    · rintro i Hx hs ⟨S, g1, g⟩
      exact ⟨S, hskip _ _ _ _ hs g1, g⟩
    · rintro i Hx Kb hi hs ⟨S, g1, g2, g3, g4, g5, g6, g7, g8, g9, g10, g11⟩ hon hoff
      refine ⟨_, g4, ?_⟩
      refine ldI_i g5 (.inl ⟨rfl, ?_⟩)
      refine hstep a i S Hx _ han hi hs g1 (fun S' H' k1 k2 k3 => alOn (hon H' ?_)) (fun j up H' h => hoff 0 (.off j up) H' h)
      have nS : ∀ x, Hx x ≠ none → x ∉ S → x ∉ S' := fun x hx hxS hx' => by
        rcases k3 x hx' with h | h
        · exact hxS h
        · exact hx h
      refine ⟨S', k1, g2.mod k2 (fun x hx => g11 x hx) g10, k2.rd g7 g3, k2.rd g8 g4, k2.rd g9 g5, ?_, nS _ (ne_none_of_rd g3) g7, nS _ (ne_none_of_rd g4) g8, nS _ (ne_none_of_rd g5) g9, nS _ g2.tz.there g10, fun x hx => ?_⟩
      · rw [← g6]; exact eq_of_mod k2 (fun h => g11 _ h hq) (g2.there _ hq)
      · intro hxO
        rcases k3 x hx with h | h
        · exact g11 x h hxO
        · exact g2.there _ hxO h
    · rintro i Hx hi ⟨S, g1, g2, g3, g4, g5, g6, g7, g8, g9, g10, g11⟩
      exact alOn (chk (by omega) ⟨⟨a + 1, S, by omega, by omega, hrow _ _ _ _ hi g1, g2, g3, g4, g7, g8, g10, g11⟩, by first | omega | (dsimp only; omega)⟩)
  · obtain rfl : a = n := by omega
    exact hend S H2 hI

theorem rel_Rel_Each.c {p : Option Addr} {H : Hp} {K : Value → Hp → Prop} (hK : ∀ cap H', H cap = none → rd H' cap 0 = some (.pointer p) → Le H H' → K (.func (.func rel_Rel_Each_1.num) ⟨[]⟩ ⟨[.pointer (some ⟨cap, 0, none⟩)]⟩) H') : rel_Rel_Each.C p H K := by
  apply rel_Rel_Each.of
  intro cap hcap
  exact hK cap _ hcap (by rw [rd_upd_self]; rfl) (.upd hcap)

/-- All pairs ahead of (a, b). -/
def prsTo (M : Nat → Nat → Bool) (n a b : Nat) : List (Int × Int) := ((List.range a).flatMap fun x => (els (M x) n).map fun (y : Nat) => ((x : Int), (y : Int))) ++ (els (M a) b).map fun (y : Nat) => ((a : Int), (y : Int))
def prs (M : Nat → Nat → Bool) (n : Nat) : List (Int × Int) := (List.range n).flatMap fun x => (els (M x) n).map fun (y : Nat) => ((x : Int), (y : Int))
theorem prsTo_off {M : Nat → Nat → Bool} {n a b : Nat} (h : M a b = false) : prsTo M n a (b + 1) = prsTo M n a b := by unfold prsTo; rw [els_off h]
theorem prsTo_on {M : Nat → Nat → Bool} {n a b : Nat} (h : M a b = true) : prsTo M n a (b + 1) = prsTo M n a b ++ [((a : Int), (b : Int))] := by unfold prsTo; rw [els_on h]; simp
theorem prsTo_row {M : Nat → Nat → Bool} {n a i : Nat} (h : Sup M n) (hi : n ≤ i) : prsTo M n (a + 1) 0 = prsTo M n a i := by
  unfold prsTo
  rw [List.range_succ, List.flatMap_append, els_end (fun j hj => h a j (.inr hj)) hi]
  simp [els]
theorem prs_mem {M : Nat → Nat → Bool} {n : Nat} {p : Int × Int} : p ∈ prs M n ↔ ∃ a b : Nat, a < n ∧ b < n ∧ M a b = true ∧ p = ((a : Int), (b : Int)) := by
  unfold prs
  simp only [List.mem_flatMap, List.mem_range, List.mem_map, els_mem]
  constructor
  · rintro ⟨a, ha, b, ⟨hb, hm⟩, rfl⟩; exact ⟨a, b, ha, hb, hm, rfl⟩
  · rintro ⟨a, b, ha, hb, hm, rfl⟩; exact ⟨a, ha, b, ⟨hb, hm⟩, rfl⟩

theorem rel_Rel_Pairs.c {R n : Nat} {M : Nat → Nat → Bool} {O : List Nat} {H : Hp} {K : Option Addr → Nat → Nat → Hp → Prop} (hu : RLO H R O n M)
    (hK : ∀ p l c H', Sn 2 pairC H' p l c (prs M n) → New H p → Le H H' → K p l c H') : rel_Rel_Pairs.C (some ⟨R, 0, none⟩) H K := by
  apply rel_Rel_Pairs.of
  intro m hm
  have lem : Le H (upd H m [.slice none 0 0]) := .upd hm
  have hlim := hu.lim
  have rm0 : rd (upd H m [.slice none 0 0]) m 0 = some (.slice none 0 0) := by rw [rd_upd_self]; rfl
  refine rel_Rel_Each.c fun cap H1 hcap hrc le1 => ?_
  have le01 := lem.trans le1
  have hcm : cap ≠ m := (ne_of_none (ne_none_of_rd rm0) hcap).symm
  show rel_Rel_Each_1.I cap H1 _ _
  refine rel_each_rule (fun a b S Hx => Le H Hx ∧ ∃ p l c, S = m :: blkL p ∧ rd Hx m 0 = some (.slice p l c) ∧ Buf 2 H Hx p l c ((prsTo M n a b).flatMap pairC) ∧ Apart p (some ⟨m, 0, none⟩) ∧ l ≤ a * 200 + min b n) [m] (hu.le le01) hrc
    (by simpa using hcm) (fun b hb h => by simp at hb; subst hb; exact hu.there _ h hm) (by simpa using ne_of_none hu.tz.there hm)
    ⟨le01, none, 0, 0, rfl, le1.rd rm0, by simpa [prsTo, els] using Buf.none, Apart.none, by omega⟩ ?_ ?_ ?_ ?_ ?_ ?_
  · rintro a b S Hx Hy ⟨h1, p, l, c, rfl, h2, h3, h4⟩ hle
    exact ⟨h1.trans hle, p, l, c, rfl, hle.rd h2, h3.le hle, h4⟩
  · rintro a b S Hx ⟨h1, p, l, c, rfl, h2, h3, h4⟩ x hx
    rcases List.mem_cons.1 hx with rfl | hx
    · exact ne_none_of_rd h2
    · exact h3.there (blkL_mem h3.zero hx)
  · rintro a b S Hx hs ⟨h1, p, l, c, rfl, h2, h3, h4, h5⟩
    exact ⟨h1, p, l, c, rfl, h2, by rw [prsTo_off hs]; exact h3, h4, by omega⟩
  · rintro a i S Hx hi ⟨h1, p, l, c, rfl, h2, h3, h4, h5⟩
    exact ⟨h1, p, l, c, rfl, h2, by rw [prsTo_row hu.sup hi]; exact h3, h4, by rw [Nat.add_mul]; omega⟩
  · rintro a b S Hx Kb ha hb hs ⟨h1, p, l, c, rfl, h2, h3, h4, h5⟩ hon _
    refine ldL_i h2 ?_
    have hbd : a * 200 ≤ 40000 := by have := Nat.mul_le_mul_right 200 (show a ≤ 200 by omega); omega
    refine h3.pushM (new := [.int .i64 (a : Int), .int .i64 (b : Int)]) rfl (by decide) rfl (by decide) rfl rfl (by simp [te_api_Pair]; omega) (fun p' c' H2 hB2 hp hM => ?_) h1
    have hmb : m ∉ blkL p := fun h => h4 m 0 0 (blkL_mem h3.zero h) rfl
    have le2 : Le H H2 := hM.le h1 fun b hb => h3.fr b 0 (blkL_mem h3.zero hb)
    have rd2 := hM.rd hmb h2
    have ap : Apart p' (some ⟨m, 0, none⟩) := by
      rcases hp with rfl | hp
      · exact h4
      · intro b o o' e e'
        simp only [Option.some.injEq, Addr.mk.injEq] at e'
        obtain ⟨rfl, _⟩ := e'
        exact ne_none_of_rd h2 (hp m o e)
    refine st rd2 (hon (m :: blkL p') _ ⟨le2.wr hm, p', l + 1, c', rfl, rd_wr_self rd2, ?_, ap, by omega⟩ ?_ ?_)
    · rw [prsTo_on hs, List.flatMap_append]
      exact hB2.mod (O := [m]) (Mod.refl.wr (.inl (by simp))) fun b o e hb => by simp at hb; subst hb; exact ap _ _ _ e rfl
    · exact (hM.mono fun x hx => List.mem_cons_of_mem _ hx).wr (.inl (by simp))
    · intro x hx
      rcases List.mem_cons.1 hx with rfl | hx
      · exact .inl (by simp)
      · rcases hp with rfl | hp
        · exact .inl (List.mem_cons_of_mem _ hx)
        · exact .inr (hp x 0 (blkL_mem hB2.zero hx))
  · rintro S Hx ⟨h1, p, l, c, rfl, h2, h3, h4, h5⟩
    have e : prsTo M n n 0 = prs M n := by simp [prsTo, prs, els]
    rw [e] at h3
    exact alOn (ldL_i h2 (hK p l c Hx (h3.sn (f := pairC) (fun _ => rfl) (by decide)) h3.fr h1))

/-- What is kept. -/
def keepB (keep : List Bool) (i : Nat) : Bool := keep.getD i false
def onlyM (M : Nat → Nat → Bool) (keep : List Bool) : Nat → Nat → Bool := fun a b => M a b && keepB keep a && keepB keep b
/-- Pairs that are kept, as far as (a, b). -/
def onlyTo (M : Nat → Nat → Bool) (keep : List Bool) (a b : Nat) : Nat → Nat → Bool := fun x y => onlyM M keep x y && (decide (x < a) || (decide (x = a) && decide (y < b)))
end Go.Proofs.YteijgmmjgbgffaaDoor
