/- Contracts. -/
import Derived.Test.YteijgmmjgbgffaaDoorO1
namespace Go.Proofs.YteijgmmjgbgffaaDoor
open Go.V
theorem rel_Rel_Behind.c {R B n : Nat} {rs qs : List Nat} {M : Nat → Nat → Bool} {H : Hp} {K : Value → Hp → Prop} (hu : RL H R B rs qs n M) {a : Nat} (ha : a < n)
    (hK : ∀ cap H', H cap = none → rd H' cap 0 = some (.pointer (some ⟨rs[a]'(by rw [hu.lr]; exact ha), 0, none⟩)) → Le H H' → K (.func (.func bits_Row_Each_1.num) ⟨[]⟩ ⟨[.pointer (some ⟨cap, 0, none⟩)]⟩) H') :
    rel_Rel_Behind.C (some ⟨R, 0, none⟩) (a : Int) H K := by
  apply rel_Rel_Behind.of
  refine rel_Rel_there.c ⟨B, rs, qs, rfl, hu⟩ ?_
  have e : decide (0 ≤ (a : Int) ∧ (a : Int) < (n : Int)) = true := decide_eq_true ⟨by omega, by omega⟩
  rw [e]
  refine bcF ?_
  refine hu.at rfl ha ?_
  exact bits_Row_Each.c hK

theorem order_circles.c {c n : Nat} {M : Nat → Nat → Bool} {O : List Nat} {H : Hp} {K : Option Addr → Nat → Nat → Hp → Prop} (hu : RLO H c O n M) (hT : Tr M)
    (hK : ∀ p l cc H', Rw H H' p l cc (crc M n) → Le H H' → K p l cc H') : order_circles.C (some ⟨c, 0, none⟩) H K := by
  apply order_circles.of
  have hlim := hu.lim
  intro b2 hb2
  have le1 : Le H (upd H b2 [.pointer (some ⟨c, 0, none⟩)]) := .upd hb2
  have r2 : rd (upd H b2 [.pointer (some ⟨c, 0, none⟩)]) b2 0 = some (.pointer (some ⟨c, 0, none⟩)) := by rw [rd_upd_self]; rfl
  refine ldP_i r2 ?_
  generalize upd H b2 [.pointer (some ⟨c, 0, none⟩)] = H1 at *
  refine rel_Rel_Len.c (hu.le le1) ?_
  refine mk rfl (by omega) (by omega) ?_
  intro b10 hb10
  have le2 : Le H1 (upd H1 b10 (rep n [.bool false])) := .upd hb10
  have rs2 : ∀ x, x < n → rd (upd H1 b10 (rep n [.bool false])) b10 x = some (.bool false) := fun x hx => rd_rep hx
  have t10 : upd H1 b10 (rep n [.bool false]) b10 ≠ none := by unfold upd; rw [if_pos rfl]; intro e; cases e
  generalize upd H1 b10 (rep n [.bool false]) = H2 at *
  intro b12 hb12
  have le3 : Le H2 (upd H2 b12 [.slice none 0 0]) := .upd hb12
  have r12 : rd (upd H2 b12 [.slice none 0 0]) b12 0 = some (.slice none 0 0) := by rw [rd_upd_self]; rfl
  refine st r12 ?_
  have le3' : Le H2 (wr (upd H2 b12 [.slice none 0 0]) b12 0 (.slice (some ⟨b10, 0, none⟩) n n)) := le3.wr hb12
  have r12' := rd_wr_self (v := .slice (some ⟨b10, 0, none⟩) n n) r12
  generalize wr (upd H2 b12 [.slice none 0 0]) b12 0 (.slice (some ⟨b10, 0, none⟩) n n) = H3 at *
  refine ldL_i r12' ?_
  have r2' := (le2.trans le3').rd r2
  have rs3 : ∀ x, x < n → rd H3 b10 x = some (.bool false) := fun x hx => le3'.rd (rs2 x hx)
  have t10' : H3 b10 ≠ none := by rw [eq_of_le le3' t10]; exact t10
  have leH3 : Le H H3 := (le1.trans le2).trans le3'
  have n2 : b2 ≠ b10 := ne_of_none (ne_none_of_rd r2) hb10
  have n12 : b12 ≠ b10 := fun e => t10 (e ▸ hb12)
  have fr10 : H b10 = none := none_of_le le1 hb10
  refine ⟨fun outp outl outc t Hx => ∃ t' : Nat, t = t' ∧ t' ≤ n ∧ Mod [b10] H3 Hx ∧ Hx b10 ≠ none ∧ (∀ x, x < n → rd Hx b10 x = some (.bool (seenM M t' x))) ∧ Rw H3 Hx outp outl outc (crcT M n t'), fun _ _ _ t _ => (n - t).toNat,
    ⟨0, rfl, by omega, .refl, t10', fun x hx => by rw [rs3 x hx]; simp [seenM], Rw.none⟩, ?_⟩
  rintro outp outl outc t Hx ⟨t, rfl, ht, mx, tx, hs, hR⟩
  refine bcd (fun h => ?_) (fun h => ?_)
  · have htn : t < n := by omega
    have rx2 : rd Hx b2 0 = some (.pointer (some ⟨c, 0, none⟩)) := mx.rd (by simpa using n2) r2'
    have rx12 : rd Hx b12 0 = some (.slice (some ⟨b10, 0, none⟩) n n) := mx.rd (by simpa using n12) r12'
    have leHx : Le H Hx := mx.le leH3 (none1 fr10)
    intro b25 hb25
    have le5 : Le Hx (upd Hx b25 [.int .i64 0]) := .upd hb25
    have r25 : rd (upd Hx b25 [.int .i64 0]) b25 0 = some (.int .i64 0) := by rw [rd_upd_self]; rfl
    refine st r25 ?_
    have le5' : Le Hx (wr (upd Hx b25 [.int .i64 0]) b25 0 (.int .i64 t)) := le5.wr hb25
    have r25' := rd_wr_self (v := .int .i64 (t : Int)) r25
    generalize wr (upd Hx b25 [.int .i64 0]) b25 0 (.int .i64 t) = H5 at *
    refine ldL_i (le5'.rd rx12) ?_
    refine ldI_i r25' ?_
    refine idxN t rfl htn ?_
    refine nil ?_
    refine ldB_i (by rw [Nat.zero_add]; exact le5'.rd (hs t htn)) ?_
    rw [seenM_self hT]
    cases hf : fstM M t with
    | false =>
      refine bcT ?_
      refine chk (by omega) ⟨⟨t + 1, by omega, by omega, mx.andLe le5', by rw [eq_of_le le5' tx]; exact tx, fun x hx => ?_, ?_⟩, by first | omega | (dsimp only; omega)⟩
      · rw [le5'.rd (hs x hx), seenM_succ, hf]; simp
      · rw [crcT_off hf]; exact hR.le le5'
    | true =>
      refine bcF ?_
      refine ldI_i r25' ?_
      intro b42 hb42
      have le6 : Le H5 (upd H5 b42 [.int .i64 t]) := .upd hb42
      have c42 : upd H5 b42 [.int .i64 t] b42 = some [.int .i64 t] := by unfold upd; rw [if_pos rfl]
      generalize upd H5 b42 [.int .i64 t] = H6 at *
      intro b44 hb44
      have le7 : Le H6 (upd H6 b44 [.slice none 0 0]) := .upd hb44
      have r44 : rd (upd H6 b44 [.slice none 0 0]) b44 0 = some (.slice none 0 0) := by rw [rd_upd_self]; rfl
      refine st r44 ?_
      have le7' : Le H6 (wr (upd H6 b44 [.slice none 0 0]) b44 0 (.slice (some ⟨b42, 0, none⟩) 1 1)) := le7.wr hb44
      have r44' := rd_wr_self (v := .slice (some ⟨b42, 0, none⟩) 1 1) r44
      generalize wr (upd H6 b44 [.slice none 0 0]) b44 0 (.slice (some ⟨b42, 0, none⟩) 1 1) = H7 at *
      have le57 : Le H5 H7 := le6.trans le7'
      have leX7 : Le Hx H7 := le5'.trans le57
      refine ldP_i (leX7.rd rx2) ?_
      refine ldI_i (le57.rd r25') ?_
      have leH7 : Le H H7 := leHx.trans leX7
      have ⟨B, rs, qs, hO, v0⟩ := hu
      have v7 : RL H7 c B rs qs n M := v0.mod (O := []) leH7.mod (by simp) (by simp)
      refine rel_Rel_Behind.c v7 htn fun cap H8 hcap hrc le8 => ?_
      show bits_Row_Each_1.I cap H8 _ _
      have leX8 : Le Hx H8 := leX7.trans le8
      have leH8 : Le H H8 := leH7.trans le8
      have c42' : H8 b42 = some [.int .i64 t] := le8 _ _ (le7' _ _ c42)
      have r44'' := le8.rd r44'
      have f44 : Hx b44 = none := none_of_le (le5'.trans le6) hb44
      have f42 : Hx b42 = none := none_of_le le5' hb42
      have n1044 : b10 ≠ b44 := ne_of_none tx f44
      have n1042 : b10 ≠ b42 := ne_of_none tx f42
      have n4442 : b44 ≠ b42 := fun e => by subst e; rw [c42] at hb44; cases hb44
      have old : ∀ x, H x ≠ none → x ∉ [b10, b44, b42] := fun x hx hm => by
        simp only [List.mem_cons, List.not_mem_nil, or_false] at hm
        rcases hm with rfl | rfl | rfl
        · exact hx fr10
        · exact hx (none_of_le leHx f44)
        · exact hx (none_of_le leHx f42)
      have v8 := v7.mod (O := []) le8.mod (by simp) (by simp)
      have br := v8.br htn
      have n25 : b25 ∉ [b10, b44, b42] := fun hm => by
        simp only [List.mem_cons, List.not_mem_nil, or_false] at hm
        rcases hm with rfl | rfl | rfl
        · exact tx hb25
        · have := none_of_le le6 hb44; exact ne_none_of_rd r25' this
        · exact ne_none_of_rd r25' hb42
      have n12' : b12 ∉ [b10, b44, b42] := fun hm => by
        simp only [List.mem_cons, List.not_mem_nil, or_false] at hm
        have := ne_none_of_rd rx12
        rcases hm with rfl | rfl | rfl
        · exact n12 rfl
        · exact this f44
        · exact this f42
      have n2' : b2 ∉ [b10, b44, b42] := fun hm => by
        simp only [List.mem_cons, List.not_mem_nil, or_false] at hm
        have := ne_none_of_rd rx2
        rcases hm with rfl | rfl | rfl
        · exact n2 rfl
        · exact this f44
        · exact this f42
      have bufNo : ∀ {p : Option Addr} {l cc : Nat} {cells : List Value} {Hy : Hp}, Buf 1 (but H8 (some ⟨b42, 0, none⟩)) Hy p l cc cells → ∀ x ∈ blkL p, x = b42 ∨ H8 x = none := fun hB x hx => by
        rcases but_none (hB.fr x 0 (blkL_mem hB.zero hx)) with ⟨a, e, h1⟩ | h1
        · simp only [Option.some.injEq] at e; subst e; exact .inl h1.symm
        · exact .inr h1
      refine each_rule (fun i Hy => Mod [b10, b44, b42] H8 Hy ∧ Hy b10 ≠ none ∧ ∃ p l cc, rd Hy b44 0 = some (.slice p l cc) ∧ Buf 1 (but H8 (some ⟨b42, 0, none⟩)) Hy p l cc ((t :: els (behM M t) i).map iv) ∧
        ∀ x, x < n → rd Hy b10 x = some (.bool (seenM M t x || (decide (x < i) && behM M t x)))) br hrc ⟨.refl, by rw [eq_of_le leX8 tx]; exact tx, _, _, _, r44'', ⟨rfl, .inr ⟨b42, [], rfl, ?_, by simpa [els, iv] using c42', rfl, Nat.le_refl _, rfl⟩⟩, fun x hx => by rw [leX8.rd (hs x hx)]; simp⟩ ?_ ?_ ?_ ?_
      · simp [but]
      · rintro i Hy ⟨m1, _⟩
        refine ⟨v8.tz.mod m1 (old _ (hu.tz.there)), fun j _ _ => ?_⟩
        have hq : qs[t]'(by rw [v8.lq]; exact htn) ∈ O := by rw [hO]; exact v0.mem htn
        rw [rd_eq (eq_of_mod m1 (old _ (hu.there _ hq)) br.hq)]
      · rintro i Hy hs' ⟨m1, ty, p, l, cc, g1, g2, g3⟩
        have hb : behM M t i = false := by unfold behM; rw [hs']; simp
        refine ⟨m1, ty, p, l, cc, g1, by rw [els_off hb]; exact g2, fun x hx => ?_⟩
        rw [g3 x hx]
        by_cases e : x = i
        · subst e; rw [hb]; simp
        · rw [decide_eq_decide.2 (show x < i ↔ x < i + 1 by omega)]
      · rintro i Hy Kb hi hs' ⟨m1, ty, p, l, cc, g1, g2, g3⟩ hon _
        have y25 := m1.rd n25 ((le57.trans le8).rd r25')
        have skip : behM M t i = false → Kb Al.on Hy := fun hb => hon _ ⟨m1, ty, p, l, cc, g1, by rw [els_off hb]; exact g2, fun x hx => by
          rw [g3 x hx]
          by_cases e : x = i
          · subst e; rw [hb]; simp
          · rw [decide_eq_decide.2 (show x < i ↔ x < i + 1 by omega)]⟩
        refine ldI_i y25 (bcd (fun hlt => ?_) (fun hge => bcF (skip ?_)))
        · refine ldP_i (m1.rd n2' (leX8.rd rx2)) (ldI_i y25 ?_)
          refine rel_Rel_Has.c ((hu.le leH8).mod m1 (fun x hx hxO => old _ (hu.there _ hxO) hx) (old _ hu.tz.there)) ?_
          rw [hasM_nat]
          cases hb : M i t with
          | false => exact bcF (skip (by unfold behM; rw [hb]; simp))
          | true =>
            have hbeh : behM M t i = true := by
              have : t < i := by omega
              unfold behM; rw [hb, hs']; simp [this]
            have hll : l ≤ n + 1 := by
              have := g2.1
              have h2 := els_len_le (behM M t) i
              simp at this; omega
            refine bcT (ldL_i g1 ?_)
            have hsub : Was (but H8 (some ⟨b42, 0, none⟩)) Hy := fun x e => by
              by_cases hx : x = b42
              · subst hx; simp [but]
              · have h8 : H8 x = none := by
                  cases h8 : H8 x with
                  | none => rfl
                  | some d =>
                    have hx' : x ∉ [b10, b44, b42] := fun hm => by
                      simp only [List.mem_cons, List.not_mem_nil, or_false] at hm
                      rcases hm with rfl | rfl | rfl
                      · exact ty e
                      · exact ne_none_of_rd g1 e
                      · exact hx rfl
                    rw [m1 x hx' d h8] at e; cases e
                exact none_of_le but_le h8
            have hno : ∀ {x : Nat}, H8 x ≠ none → x ≠ b42 → x ∉ blkL p := fun h1 h2 hx => by
              rcases bufNo g2 _ hx with e | e
              · exact h2 e
              · exact h1 e
            have t44 := ne_none_of_rd r44''
            have t10'' : H8 b10 ≠ none := by rw [eq_of_le leX8 tx]; exact tx
            have hb12 := leX8.rd rx12
            refine g2.pushS rfl (by decide) rfl (by decide) rfl rfl (by simp [te_int]; omega) (fun p' c' H9 hB9 hp' m9 => ?_) hsub
            have r9 := m9.rd (hno t44 n4442) g1
            refine st r9 ?_
            have n12b : b12 ≠ b44 := fun e => n12' (by simp [e])
            refine ldL_i (p := some ⟨b10, 0, none⟩) (l := n) (c := n) (by rw [rd_wr_ne n12b]; exact m9.rd (hno (ne_none_of_rd hb12) fun e => n12' (by simp [e])) (m1.rd n12' hb12)) ?_
            refine idxN i rfl hi (nil ?_)
            have s9 : ∀ x, x < n → rd (wr H9 b44 0 (.slice p' (l + 1) c')) b10 x = some (.bool (seenM M t x || (decide (x < i) && behM M t x))) := fun x hx => by
              rw [rd_wr_ne n1044]; exact m9.rd (hno t10'' n1042) (g3 x hx)
            refine st0 (s9 i hi) (hon _ ⟨((m1.via m9 fun x hx => ?_).wr (.inl (by simp))).wr (.inl (by simp)), ne_none_of_rd (rd_wr_self (s9 i hi)), p', l + 1, c', ?_, ?_, fun x hx => ?_⟩)
            · rcases bufNo g2 x hx with e | e
              · exact .inl (by simp [e])
              · exact .inr e
            · rw [rd_wr_ne n1044.symm]; exact rd_wr_self r9
            · rw [els_on hbeh]
              have hmm : Mod [b10, b44] H9 (wr (wr H9 b44 0 (.slice p' (l + 1) c')) b10 i (.bool true)) := (Mod.refl.wr (.inl (by simp))).wr (.inl (by simp))
              have := hB9.mod hmm fun x o e hx => by
                have hx' : x = b10 ∨ x = b44 := by simpa using hx
                have hx8 : H8 x ≠ none ∧ x ≠ b42 ∧ Hy x ≠ none := by
                  rcases hx' with rfl | rfl
                  · exact ⟨t10'', n1042, ty⟩
                  · exact ⟨t44, n4442, ne_none_of_rd g1⟩
                rcases hp' with rfl | hp'
                · exact hno hx8.1 hx8.2.1 (blkL_some e)
                · exact hx8.2.2 (hp' x o e)
              simpa [iv] using this
            · by_cases e : x = i
              · subst e; rw [rd_wr_self (s9 x hi)]; simp [hbeh]
              · rw [rd_wr_off e, s9 x hx, decide_eq_decide.2 (show x < i ↔ x < i + 1 by omega)]
        · unfold behM
          have : ¬ t < i := by omega
          simp [this]
      · rintro i Hy hi ⟨m1, ty, p, l, cc, g1, g2, g3⟩
        have e1 : els (behM M t) i = els (behM M t) n := els_end (fun j hj => by unfold behM; rw [hu.sup t j (.inr hj)]; simp) hi
        rw [e1, ← clsM_prog htn] at g2
        refine alOn (ldL_i g1 ?_)
        have mX : Mod [b10] Hx Hy := (m1.after leX8).drop fun x hx => by
          simp only [List.mem_cons, List.not_mem_nil, or_false] at hx
          rcases hx with rfl | rfl | rfl
          · exact .inl (by simp)
          · exact .inr f44
          · exact .inr f42
        have m3 : Mod [b10] H3 Hy := mx.trans mX
        have sub3 : Was H3 Hy := m3.was fun x hx => by simp at hx; subst hx; exact ty
        have sub3x : Was H3 Hx := mx.was fun x hx => by simp at hx; subst hx; exact tx
        have hRy := hR.mod mX fun x hx => by simp at hx; subst hx; exact t10'
        have hl := hR.len
        have hcl := crcT_len (M := M) (n := n) (t := t)
        have hnp : ∀ x ∈ blkL p, Hx x = none := fun x hx => by
          rcases bufNo g2 x hx with rfl | e
          · exact f42
          · exact none_of_le leX8 e
        refine hRy.push sub3 g2.sl (fun x o e => sub3x x (hnp x (blkL_some e))) (fun x hx => g2.there (blkL_mem g2.zero hx)) g2.pt (fun x o o' e e' => ?_) rfl rfl (by decide) (by simp [te_sl_int]; omega) rfl (fun p' c' H' hR' hp' m' => ?_)
        · obtain ⟨hs', _, hB, _⟩ := hR
          exact hB.there e (hnp x (blkL_some e'))
        · have fro : ∀ x ∈ blkL outp, H3 x = none := fun x hx => by
            obtain ⟨hs', _, hB, _⟩ := hR
            exact hB.fr x 0 (blkL_mem hB.zero hx)
          have n10 : b10 ∉ blkL outp := fun hx => t10' (fro _ hx)
          refine chk (by omega) ⟨⟨t + 1, by omega, by omega, m3.via m' fun x hx => .inr (fro x hx), by rw [eq_of_mod m' n10 ty]; exact ty, fun x hx => ?_, ?_⟩, by first | omega | (dsimp only; omega)⟩
          · rw [m'.rd n10 (g3 x hx), seenM_succ, hf, Bool.true_and]
            have : x < i := by omega
            simp [this, behM]
          · rw [crcT_on hf]; exact hR'
  · obtain rfl : t = n := by omega
    have leHx : Le H Hx := mx.le leH3 (none1 fr10)
    exact hK _ _ _ _ (hR.base leH3) leHx

/-- A relation, or none. -/
def RN (H : Hp) (r : Option Addr) (n : Nat) (M : Nat → Nat → Bool) : Prop := (r = none ∧ n = 0 ∧ M = (fun _ _ => false) ∧ Tz H) ∨ ∃ R O, r = some ⟨R, 0, none⟩ ∧ RLO H R O n M
theorem RLO.rn {H : Hp} {R n : Nat} {M : Nat → Nat → Bool} {O : List Nat} (h : RLO H R O n M) : RN H (some ⟨R, 0, none⟩) n M := .inr ⟨R, O, rfl, h⟩
theorem RN.le {H H' : Hp} {r : Option Addr} {n : Nat} {M : Nat → Nat → Bool} (h : RN H r n M) (hl : Le H H') : RN H' r n M := by
  rcases h with ⟨h1, h2, h3, h4⟩ | ⟨R, O, h1, h2⟩
  · exact .inl ⟨h1, h2, h3, h4.le hl⟩
  · exact .inr ⟨R, O, h1, h2.le hl⟩
theorem RN.sup {H : Hp} {r : Option Addr} {n : Nat} {M : Nat → Nat → Bool} (h : RN H r n M) : Sup M n := by
  rcases h with ⟨_, _, h3, _⟩ | ⟨R, O, _, h2⟩
  · subst h3; exact fun _ _ _ => rfl
  · exact h2.sup
theorem order_closed.c {r : Option Addr} {n : Nat} {M : Nat → Nat → Bool} {H : Hp} {K : Option Addr → Hp → Prop} (hu : RN H r n M)
    (hK : ∀ R' O' H', RLO H' R' O' n (clo M n) → Tr (clo M n) → (∀ b ∈ O', H b = none) → Le H H' → K (some ⟨R', 0, none⟩) H') : order_closed.C r H K := by
  apply order_closed.of
  have ht := clo_tr hu.sup
  rcases hu with ⟨rfl, rfl, rfl, hT⟩ | ⟨R, O, rfl, hu⟩
  · refine bcd (fun _ => ?_) fun h => absurd rfl h
    refine rel_New.c hT fun R O H' u hO le => ?_
    rw [show (min (max (0 : Int) 0) 200).toNat = 0 by decide] at u
    exact hK R O H' u ht hO le
  · refine bcd (fun h => by cases h) fun _ => ?_
    exact rel_Rel_Closure.c hu fun R' O' H' u hO le => hK R' O' H' u ht hO le
end Go.Proofs.YteijgmmjgbgffaaDoor
