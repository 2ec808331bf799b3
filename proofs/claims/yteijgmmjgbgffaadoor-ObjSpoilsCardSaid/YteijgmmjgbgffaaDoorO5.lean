/- Contracts. -/
import Derived.Test.YteijgmmjgbgffaaDoorO4
namespace Go.Proofs.YteijgmmjgbgffaaDoor
open Go.V
theorem heads {A H : Hp} {p : Option Addr} {l c n : Nat} {M : Nat → Nat → Bool} {hs : List Nat} (hR : Rw A H p l c (hs.map (clsM M n))) {i : Int} {k : Nat} (hi : i = (k : Int)) (hk : k < hs.length) (hn : hs[k] < n) {F : Int → Prop} (hF : F ((hs[k] : Nat) : Int)) :
    IDX i l fun j => NIL p fun b o => ldL (rd H b (o + j)) fun xp xl _ => IDX (0 : Int) xl fun k2 => NIL xp fun b2 o2 => ldI .i64 (rd H b2 (o2 + k2)) F := by
  have e := cls_hd (M := M) hn
  have hget : (hs.map (clsM M n))[k]'(by simpa using hk) = clsM M n hs[k] := by simp
  refine hR.hd hi (by simpa using hk) (by rw [hget]; exact e.2) ?_
  rw [hget, e.1]; exact hF
section
variable {H A : Hp} {m B : Nat} {bs hs : List Nat} {n : Nat} {M N : Nat → Nat → Bool} {p : Option Addr} {l c : Nat}
/-- Is one class's first ahead of another one's? -/
theorem RF.look (h : RF H m B bs n M) (hR : Rw A H p l c (hs.map (clsM N n))) (hn : ∀ x ∈ hs, x < n) {i j : Int} {a b : Nat} (hi : i = (a : Int)) (ha : a < hs.length) (hj : j = (b : Int)) (hb : b < hs.length) {F : Bool → Prop} (hF : F (M hs[a] hs[b])) :
    NIL (some ⟨m, 0, none⟩) fun bq oq => ldL (rd H bq (oq + 1)) fun xp xl _ => IDX i l fun k => NIL p fun b1 o1 => ldL (rd H b1 (o1 + k)) fun xp2 xl2 _ => IDX (0 : Int) xl2 fun k2 => NIL xp2 fun b2 o2 => ldI .i64 (rd H b2 (o2 + k2)) fun x =>
      IDX x xl fun k3 => NIL xp fun b3 o3 => ldL (rd H b3 (o3 + k3)) fun xp4 xl4 _ => IDX j l fun k5 => NIL p fun b5 o5 => ldL (rd H b5 (o5 + k5)) fun xp6 xl6 _ => IDX (0 : Int) xl6 fun k6 => NIL xp6 fun b6 o6 => ldI .i64 (rd H b6 (o6 + k6)) fun y =>
        IDX y xl4 fun k7 => NIL xp4 fun b7 o7 => ldB (rd H b7 (o7 + k7)) F := by
  have h1 := hn _ (List.getElem_mem ha)
  have h2 := hn _ (List.getElem_mem hb)
  obtain ⟨q, c', g1, g2, g3⟩ := h.hm
  obtain rfl := g3.resolve_left (by omega)
  refine nil (ldL_i (by rw [Nat.zero_add]; exact g1) ?_)
  refine heads hR hi ha h1 ?_
  refine idxN _ rfl h1 (nil ?_)
  refine ldL_i (by rw [Nat.zero_add]; exact h.ptr _ (by rw [h.lb]; exact h1)) ?_
  refine heads hR hj hb h2 ?_
  refine idxN _ rfl h2 (nil ?_)
  exact ldB_i (by rw [Nat.zero_add]; exact h.row _ (by rw [h.lb]; exact h1) _ h2) hF
theorem RFO.look {O : List Nat} (h : RFO H m O n M) (hR : Rw A H p l c (hs.map (clsM N n))) (hn : ∀ x ∈ hs, x < n) {i j : Int} {a b : Nat} (hi : i = (a : Int)) (ha : a < hs.length) (hj : j = (b : Int)) (hb : b < hs.length) {F : Bool → Prop} (hF : F (M hs[a] hs[b])) :
    NIL (some ⟨m, 0, none⟩) fun bq oq => ldL (rd H bq (oq + 1)) fun xp xl _ => IDX i l fun k => NIL p fun b1 o1 => ldL (rd H b1 (o1 + k)) fun xp2 xl2 _ => IDX (0 : Int) xl2 fun k2 => NIL xp2 fun b2 o2 => ldI .i64 (rd H b2 (o2 + k2)) fun x =>
      IDX x xl fun k3 => NIL xp fun b3 o3 => ldL (rd H b3 (o3 + k3)) fun xp4 xl4 _ => IDX j l fun k5 => NIL p fun b5 o5 => ldL (rd H b5 (o5 + k5)) fun xp6 xl6 _ => IDX (0 : Int) xl6 fun k6 => NIL xp6 fun b6 o6 => ldI .i64 (rd H b6 (o6 + k6)) fun y =>
        IDX y xl4 fun k7 => NIL xp4 fun b7 o7 => ldB (rd H b7 (o7 + k7)) F := by
  obtain ⟨B, bs, rfl, h⟩ := h
  exact h.look hR hn hi ha hj hb hF
end

theorem centoref2_Rel_free.c {m n l cc i b dc : Nat} {M : Nat → Nat → Bool} {O : List Nat} {A H : Hp} {p : Option Addr} {hs : List Nat} {d : Nat → Bool} {K : Bool → Hp → Prop} (hu : RFO H m O n M) (hR : Rw A H p l cc (hs.map (clsM M n))) (hn : ∀ x ∈ hs, x < n) (hd : hs.Nodup)
    (hD : ∀ k (h : k < hs.length), rd H b k = some (.bool (!d hs[k]))) (hi : i < hs.length) (hrl : hs.length ≤ 1000) (hK : K (freeL M (hs.filter d) hs[i]) H) : centoref2_Rel_free.C (some ⟨m, 0, none⟩) p l cc (some ⟨b, 0, none⟩) l dc (i : Int) H K := by
  apply centoref2_Rel_free.of
  have hl := hR.len
  rw [List.length_map] at hl
  refine ⟨fun k Hx => ∃ k' : Nat, k = k' ∧ k' ≤ l ∧ H = Hx ∧ (hs.take k').all (fun g => !d g || (decide (g = hs[i]) || !M g hs[i])) = true, fun k _ => (l - k).toNat, ⟨0, rfl, by omega, rfl, rfl⟩, ?_⟩
  rintro k _ ⟨k, rfl, hk, rfl, hall⟩
  have efree : freeL M (hs.filter d) hs[i] = hs.all (fun g => !d g || (decide (g = hs[i]) || !M g hs[i])) := by
    unfold freeL; rw [List.all_filter]
  refine bcd (fun h => ?_) (fun h => ?_)
  · have hkr : k < hs.length := by omega
    have next : (!d hs[k] || (decide (hs[k] = hs[i]) || !M hs[k] hs[i])) = true → (hs.take (k + 1)).all (fun g => !d g || (decide (g = hs[i]) || !M g hs[i])) = true := fun h => by
      rw [List.take_succ_eq_append_getElem hkr, List.all_append, hall]; simpa using h
    refine bcd (fun hne => ?_) (fun heq => ?_)
    · refine idxN k rfl (by omega) (nil (ldB_i (by rw [Nat.zero_add]; exact hD k hkr) ?_))
      rw [Bool.not_not]
      refine bc_i (fun hdk => ?_) (fun hdk => ?_)
      · refine hu.look hR hn rfl hkr rfl hi ?_
        refine bc_i (fun hm => ?_) (fun hm => ?_)
        · have : freeL M (hs.filter d) hs[i] = false := by
            rw [efree, List.all_eq_false]
            refine ⟨hs[k], List.getElem_mem hkr, ?_⟩
            have hne' : ¬ hs[k] = hs[i] := fun e => by have := nodup_inj hd hkr hi e; omega
            simp [hne', hm, hdk]
          rwa [this] at hK
        · exact chk (by omega) ⟨⟨k + 1, by omega, by omega, rfl, next (by rw [hm]; simp)⟩, by first | omega | (dsimp only; omega)⟩
      · exact chk (by omega) ⟨⟨k + 1, by omega, by omega, rfl, next (by rw [hdk]; simp)⟩, by first | omega | (dsimp only; omega)⟩
    · have : k = i := by omega
      subst this
      exact chk (by omega) ⟨⟨k + 1, by omega, by omega, rfl, next (by simp)⟩, by first | omega | (dsimp only; omega)⟩
  · have e : freeL M (hs.filter d) hs[i] = true := by
      rw [List.take_of_length_le (by omega)] at hall; rw [efree]; exact hall
    rwa [e] at hK

theorem centoref2_Rel_Sort.c {m n : Nat} {M : Nat → Nat → Bool} {O : List Nat} {H : Hp} {K : Option Addr → Nat → Nat → Hp → Prop} (hu : RFO H m O n M)
    (hK : ∀ p l cc H', Sl iv H' p l cc (srt M n) → Le H H' → K p l cc H') : centoref2_Rel_Sort.C (some ⟨m, 0, none⟩) H K := by
  apply centoref2_Rel_Sort.of
  have hlim := hu.lim
  refine centoref2_Rel_Circles.c hu fun p l cc H1 hR le1 => ?_
  have hl := hR.len
  have hhl := hds_len (M := M) (n := n)
  rw [crc_len] at hl
  have hnn : ∀ x ∈ hdsM M n, x < n := fun x hx => (hds_mem.1 hx).1
  have hnd := hds_nodup (M := M) (n := n)
  refine mk rfl (by omega) (by omega) ?_
  intro b hb
  have le2 : Le H1 (upd H1 b (rep l [.bool false])) := .upd hb
  have r2 : ∀ x, x < l → rd (upd H1 b (rep l [.bool false])) b x = some (.bool false) := fun x hx => rd_rep hx
  have t2 : upd H1 b (rep l [.bool false]) b ≠ none := by unfold upd; rw [if_pos rfl]; intro e; cases e
  generalize upd H1 b (rep l [.bool false]) = H2 at *
  have fb : H b = none := none_of_le le1 hb
  have le12 := le1.trans le2
  have h40 : n * n ≤ 40000 := Nat.mul_le_mul hlim hlim
  have hR' : Rw H H1 p l cc ((hdsM M n).map (clsM M n)) := hR
  have ft : ∀ l : List Nat, l.filter (fun _ => true) = l := fun l => List.filter_eq_self.2 (by simp)
  have hsrt0 : ([] : List Nat) ++ srtS M n (hdsM M n).length (hdsM M n) = srt M n := rfl
  generalize hdsM M n = hs at *
  have keep : ∀ H', Mod [b] H2 H' → Le H1 H' := fun H' hm => hm.le le2 (none1 hb)
  refine ⟨fun op ol oc nn Hx => ∃ (n' : Nat) (d : Nat → Bool) (out : List Nat), nn = n' ∧ n' ≤ l ∧ Mod [b] H2 Hx ∧ (∀ k (h : k < hs.length), rd Hx b k = some (.bool (!d hs[k]))) ∧ Buf 1 H2 Hx op ol oc (out.map iv) ∧
    out ++ srtS M n (hs.filter d).length (hs.filter d) = srt M n ∧ ((hs.filter d).length + n' = l ∨ (hs.filter d).find? (freeL M (hs.filter d)) = none) ∧ out.length + n * (hs.filter d).length ≤ n * n, fun _ _ _ nn _ => (l - nn).toNat,
    ⟨0, fun _ => true, [], rfl, by omega, .refl, fun k hk => r2 k (by omega), Buf.none, ?_, .inl ?_, ?_⟩, ?_⟩
  · rw [ft]; exact hsrt0
  · rw [ft]; omega
  · rw [ft, List.length_nil, Nat.zero_add]; exact Nat.mul_le_mul_left n hhl
  rintro op ol oc nn Hx ⟨n', d, out, rfl, hn', mx, hD, hO', hsrt, hor, hlen⟩
  have hol : ol = out.length := by have := hO'.1; simpa using this
  refine bcd (fun h => ?_) (fun h => ?_)
  · refine ⟨fun op' ol' oc' i Hy => ∃ i' : Nat, i = i' ∧ i' ≤ l ∧ op = op' ∧ ol = ol' ∧ oc = oc' ∧ Hx = Hy ∧ ∀ j (h : j < i') (h' : j < hs.length), (d hs[j] && freeL M (hs.filter d) hs[j]) = false, fun _ _ _ i _ => (l - i).toNat,
      ⟨0, rfl, by omega, rfl, rfl, rfl, rfl, fun j h => absurd h (Nat.not_lt_zero _)⟩, ?_⟩
    rintro _ _ _ i _ ⟨i, rfl, hi, rfl, rfl, rfl, rfl, hno⟩
    have leX := keep Hx mx
    refine bcd (fun h => ?_) (fun h => ?_)
    · have hih : i < hs.length := by omega
      have next : (d hs[i] && freeL M (hs.filter d) hs[i]) = false → ∀ j (h : j < i + 1) (h' : j < hs.length), (d hs[j] && freeL M (hs.filter d) hs[j]) = false := fun hf j hj hj' => by
        by_cases e : j = i
        · subst e; exact hf
        · exact hno j (by omega) hj'
      refine idxN i rfl (by omega) (ldB_i (by rw [Nat.zero_add]; exact hD i hih) ?_)
      refine bcn (fun hdi => ?_) (fun hdi => ?_)
      · exact chk (by omega) ⟨⟨i + 1, by omega, by omega, rfl, rfl, rfl, rfl, next (by rw [hdi]; rfl)⟩, by first | omega | (dsimp only; omega)⟩
      · refine centoref2_Rel_free.c (hu.le (le1.trans leX)) (hR'.le leX) hnn hnd hD hih (by omega) ?_
        refine bcn (fun hf => ?_) (fun hf => ?_)
        · exact chk (by omega) ⟨⟨i + 1, by omega, by omega, rfl, rfl, rfl, rfl, next (by rw [hf]; simp)⟩, by first | omega | (dsimp only; omega)⟩
        · have hfind : (hs.filter d).find? (freeL M (hs.filter d)) = some hs[i] := by
            rw [List.find?_filter]
            exact find_at hih (by rw [hdi, hf]; rfl) fun j hj => by
              have := hno j hj (by omega)
              rw [Bool.decide_and, Bool.decide_eq_true, Bool.decide_eq_true]; exact this
          have hsome := srtS_some (n := n) hfind
          have hmem := List.mem_of_find?_eq_some hfind
          have hle1 := List.length_erase_of_mem hmem
          have hpos := List.length_pos_of_mem hmem
          have her : hs.filter (fun h => d h && !decide (h = hs[i])) = (hs.filter d).erase hs[i] := by
            rw [List.Nodup.erase_eq_filter (hnd.filter d), List.filter_filter]
            congr 1
            funext h
            rw [Bool.and_comm]
            congr 1
          have hmul : n + n * ((hs.filter d).length - 1) = n * (hs.filter d).length := by
            obtain ⟨k, hk⟩ : ∃ k, (hs.filter d).length = k + 1 := ⟨(hs.filter d).length - 1, by omega⟩
            rw [hk, Nat.add_sub_cancel, Nat.mul_add, Nat.mul_one, Nat.add_comm]
          refine idxN i rfl (by omega) ?_
          refine st0 (hD i hih) ?_
          have m3 : Mod [b] H2 (wr Hx b i (.bool true)) := mx.wr (.inl (by simp))
          have mX3 : Mod [b] Hx (wr Hx b i (.bool true)) := Mod.refl.wr (.inl (by simp))
          have hD3 : ∀ k (h : k < hs.length), rd (wr Hx b i (.bool true)) b k = some (.bool (!(d hs[k] && !decide (hs[k] = hs[i])))) := fun k hk => by
            by_cases e : k = i
            · subst e; rw [rd_wr_self (hD k hk)]; simp
            · have : ¬ hs[k] = hs[i] := fun e' => e (nodup_inj hnd hk hih e')
              rw [rd_wr_off e, hD k hk]; simp [this]
          generalize wr Hx b i (.bool true) = H3 at *
          have leH3 := keep H3 m3
          have t3 : ∀ x ∈ [b], H3 x ≠ none := fun x hx => by simp at hx; subst hx; exact ne_none_of_rd (hD3 i hih)
          refine (hR'.le leH3).at rfl (by simpa using hih) fun q l' c' hs' hpt _ => ?_
          have hs2 : Sl iv H3 q l' c' (clsM M n hs[i]) := by simpa using hs'
          have hl' := hs2.len
          have hcn := clsM_len (M := M) (n := n) (a := hs[i])
          have hO3 : Buf 1 H2 H3 op ol oc (out.map iv) := hO'.mod mX3 fun x o e hx => by simp at hx; subst hx; exact t2 (hO'.fr x o e)
          refine hO3.appS (n := l') (new := (clsM M n hs[i]).map iv) rfl (by decide) rfl (by decide) (by simp [hl']) (by rw [List.all_eq_true]; intro v hvv; obtain ⟨y, _, rfl⟩ := List.mem_map.1 hvv; rfl) (by simp [te_int]; omega)
            (fun G hG => sl_srcG hs2 hpt G hG) (fun p' c' H4 hO4 hp' hm => ?_) (m3.was t3)
          have hpo : ∀ x ∈ blkL op, H2 x = none := fun x hx => hO'.fr x 0 (blkL_mem hO'.zero hx)
          have hbo : b ∉ blkL op := fun hx => t2 (hpo b hx)
          refine chk (by omega) ⟨⟨n' + 1, fun h => d h && !decide (h = hs[i]), out ++ clsM M n hs[i], by omega, by omega, m3.via hm fun x hx => .inr (hpo x hx), fun k hk => hm.rd hbo (hD3 k hk), by rw [List.map_append]; exact hO4, ?_, ?_, ?_⟩, by first | omega | (dsimp only; omega)⟩
          · rw [her, List.append_assoc, ← hsrt, hsome]
          · rw [her]
            rcases hor with h1 | h1
            · left; omega
            · rw [h1] at hfind; cases hfind
          · rw [her, List.length_append, hle1]; omega
    · have hnone : (hs.filter d).find? (freeL M (hs.filter d)) = none := by
        rw [List.find?_filter]
        exact find_no fun j hj => by
          have := hno j (by omega) hj
          rw [Bool.decide_and, Bool.decide_eq_true, Bool.decide_eq_true]; exact this
      exact chk (by omega) ⟨⟨n' + 1, d, out, by omega, by omega, mx, hD, hO', hsrt, .inr hnone, hlen⟩, by first | omega | (dsimp only; omega)⟩
  · obtain rfl : n' = l := by omega
    have e0 : srtS M n (hs.filter d).length (hs.filter d) = [] := by
      rcases hor with h1 | h1
      · rw [show (hs.filter d).length = 0 by omega]; rfl
      · exact srtS_none h1
    rw [e0, List.append_nil] at hsrt
    rw [← hsrt] at hK
    exact hK _ _ _ _ hO'.sl (le1.trans (keep Hx mx))

/-! ### Orders -/
def ordB (M : Nat → Nat → Bool) (n : Nat) : Bool := (List.range n).all fun a => !M a a
def totB (M : Nat → Nat → Bool) (n : Nat) : Bool := ordB M n && (List.range n).all fun a => (List.range n).all fun b => decide (a = b) || (M a b || M b a)
theorem ordB_iff {M : Nat → Nat → Bool} {n : Nat} : ordB M n = true ↔ ∀ a, a < n → M a a = false := by unfold ordB; simp
theorem totB_iff {M : Nat → Nat → Bool} {n : Nat} : totB M n = true ↔ (∀ a, a < n → M a a = false) ∧ ∀ a, a < n → ∀ b, b < n → a = b ∨ M a b = true ∨ M b a = true := by
  unfold totB; rw [Bool.and_eq_true, ordB_iff]; simp
theorem centoref2_Rel_IsOrder.c {m n : Nat} {M : Nat → Nat → Bool} {O : List Nat} {H : Hp} {K : Bool → Hp → Prop} (hu : RFO H m O n M) (hK : K (ordB M n) H) : centoref2_Rel_IsOrder.C (some ⟨m, 0, none⟩) H K := by
  apply centoref2_Rel_IsOrder.of
  have hlim := hu.lim
  refine ⟨fun t Hx => ∃ t' : Nat, t = t' ∧ t' ≤ n ∧ H = Hx ∧ ∀ a, a < t' → M a a = false, fun t _ => (n - t).toNat, ⟨0, rfl, by omega, rfl, fun a h => absurd h (Nat.not_lt_zero _)⟩, ?_⟩
  rintro t _ ⟨t, rfl, ht, rfl, hall⟩
  refine hu.len ?_
  refine bcd (fun h => ?_) (fun h => ?_)
  · refine hu.get rfl (by omega) rfl (by omega) ?_
    refine bc_i (fun hm => ?_) (fun hm => ?_)
    · have e : ordB M n = false := by
        rw [← Bool.not_eq_true, ordB_iff]
        intro h'
        have := h' t (by omega)
        rw [hm] at this; cases this
      rwa [e] at hK
    · refine chk (by omega) ⟨⟨t + 1, by omega, by omega, rfl, fun a ha => ?_⟩, by first | omega | (dsimp only; omega)⟩
      by_cases e : a = t
      · subst e; exact hm
      · exact hall a (by omega)
  · have e : ordB M n = true := ordB_iff.2 fun a ha => hall a (by omega)
    rwa [e] at hK
/-- One step of IsTotal. -/
def totP (M : Nat → Nat → Bool) (a b : Nat) : Prop := ¬ (M a b = true ∧ M b a = true) ∧ (a = b ∨ M a b = true ∨ M b a = true)
theorem totB_of {M : Nat → Nat → Bool} {n : Nat} (hT : Tr M) : totB M n = true ↔ ∀ a, a < n → ∀ b, b < n → totP M a b := by
  rw [totB_iff]
  constructor
  · rintro ⟨h1, h2⟩ a ha b hb
    refine ⟨fun ⟨g1, g2⟩ => ?_, h2 a ha b hb⟩
    have := hT _ _ _ g1 g2
    rw [h1 a ha] at this; cases this
  · intro h
    refine ⟨fun a ha => ?_, fun a ha b hb => (h a ha b hb).2⟩
    cases e : M a a with
    | false => rfl
    | true => exact absurd ⟨e, e⟩ (h a ha a ha).1
theorem order_IsTotal.c {r : Option Addr} {n : Nat} {M : Nat → Nat → Bool} {H : Hp} {K : Bool → Hp → Prop} (hu : RN H r n M) (hn : n ≤ 200) (hK : ∀ H', Le H H' → K (totB (clo M n) n) H') : order_IsTotal.C r H K := by
  apply order_IsTotal.of
  refine order_closed.c hu fun R O H1 u hT hO le1 => ?_
  refine rel_Rel_Len.c u ?_
  generalize clo M n = N at *
  refine ⟨fun t Hx => ∃ t' : Nat, t = t' ∧ t' ≤ n ∧ H1 = Hx ∧ ∀ a, a < t' → ∀ b, b < n → totP N a b, fun t _ => (n - t).toNat, ⟨0, rfl, by omega, rfl, fun a h => absurd h (Nat.not_lt_zero _)⟩, ?_⟩
  rintro t _ ⟨t, rfl, ht, rfl, hall⟩
  refine bcd (fun h => ?_) (fun h => ?_)
  · have htn : t < n := by omega
    refine rel_Rel_Len.c u ?_
    refine ⟨fun x Hx => ∃ x' : Nat, x = x' ∧ x' ≤ n ∧ H1 = Hx ∧ ∀ b, b < x' → totP N t b, fun x _ => (n - x).toNat, ⟨0, rfl, by omega, rfl, fun a h => absurd h (Nat.not_lt_zero _)⟩, ?_⟩
    rintro x _ ⟨x, rfl, hx, rfl, hin⟩
    refine bcd (fun h => ?_) (fun h => ?_)
    · have hxn : x < n := by omega
      have no : ¬ totP N t x → K false H1 := fun hno => by
        have e : totB N n = false := by
          rw [← Bool.not_eq_true, totB_of hT]
          exact fun h' => hno (h' t htn x hxn)
        rw [← e]; exact hK _ le1
      have go : totP N t x → CHK .i64 ((x : Int) + 1) fun x' => (∃ k : Nat, x' = k ∧ k ≤ n ∧ H1 = H1 ∧ ∀ b, b < k → totP N t b) ∧ (n - x').toNat < (n - (x : Int)).toNat := fun hp =>
        chk (by omega) ⟨⟨x + 1, by omega, by omega, rfl, fun b hb => by
          by_cases e : b = x
          · subst e; exact hp
          · exact hin b (by omega)⟩, by omega⟩
      refine rel_Rel_Has.c u ?_
      rw [hasM_nat]
      refine bc_i (fun h1 => ?_) (fun h1 => ?_)
      · refine rel_Rel_Has.c u ?_
        rw [hasM_nat]
        refine bc_i (fun h2 => no fun hp => hp.1 ⟨h1, h2⟩) (fun h2 => ?_)
        have hp : totP N t x := ⟨fun g => (by rw [h2] at g; cases g.2), .inr (.inl h1)⟩
        refine bcd (fun _ => ?_) (fun _ => go hp)
        refine rel_Rel_Has.c u ?_
        rw [hasM_nat, h1]
        exact bcF (go hp)
      · refine bcd (fun hne => ?_) (fun heq => go ⟨fun g => (by rw [h1] at g; cases g.1), .inl (by omega)⟩)
        refine rel_Rel_Has.c u ?_
        rw [hasM_nat, h1]
        refine bcT (rel_Rel_Has.c u ?_)
        rw [hasM_nat]
        refine bcn (fun h2 => no fun hp => ?_) (fun h2 => go ⟨fun g => (by rw [h1] at g; cases g.1), .inr (.inr h2)⟩)
        rcases hp.2 with e | e | e
        · omega
        · rw [h1] at e; cases e
        · rw [h2] at e; cases e
    · refine chk (by omega) ⟨⟨t + 1, by omega, by omega, rfl, fun a ha b hb => ?_⟩, by first | omega | (dsimp only; omega)⟩
      by_cases e : a = t
      · subst e; exact hin b (by omega)
      · exact hall a (by omega) b hb
  · have e : totB N n = true := (totB_of hT).2 fun a ha => hall a (by omega)
    rw [← e]; exact hK _ le1
theorem centoref2_Rel_IsTotal.c {m n : Nat} {M : Nat → Nat → Bool} {O : List Nat} {H : Hp} {K : Bool → Hp → Prop} (hu : RFO H m O n M) (hK : K (totB M n) H) : centoref2_Rel_IsTotal.C (some ⟨m, 0, none⟩) H K := by
  apply centoref2_Rel_IsTotal.of
  have hlim := hu.lim
  refine ⟨fun t Hx => ∃ t' : Nat, t = t' ∧ t' ≤ n ∧ H = Hx ∧ ∀ a, a < t' → ∀ b, b < a → M a b = true ∨ M b a = true, fun t _ => (n - t).toNat, ⟨0, rfl, by omega, rfl, fun a h => absurd h (Nat.not_lt_zero _)⟩, ?_⟩
  rintro t _ ⟨t, rfl, ht, rfl, hall⟩
  refine hu.len ?_
  refine bcd (fun h => ?_) (fun h => ?_)
  · have htn : t < n := by omega
    refine ⟨fun x Hx => ∃ x' : Nat, x = x' ∧ x' ≤ t ∧ H = Hx ∧ ∀ b, b < x' → M t b = true ∨ M b t = true, fun x _ => (t - x).toNat, ⟨0, rfl, by omega, rfl, fun a h => absurd h (Nat.not_lt_zero _)⟩, ?_⟩
    rintro x _ ⟨x, rfl, hx, rfl, hin⟩
    refine bcd (fun h => ?_) (fun h => ?_)
    · have hxt : x < t := by omega
      have go : (M t x = true ∨ M x t = true) → CHK .i64 ((x : Int) + 1) fun x' => (∃ k : Nat, x' = k ∧ k ≤ t ∧ H = H ∧ ∀ b, b < k → M t b = true ∨ M b t = true) ∧ (t - x').toNat < (t - (x : Int)).toNat := fun hp =>
        chk (by omega) ⟨⟨x + 1, by omega, by omega, rfl, fun b hb => by
          by_cases e : b = x
          · subst e; exact hp
          · exact hin b (by omega)⟩, by omega⟩
      refine hu.get rfl htn rfl (by omega) ?_
      refine bcn (fun h1 => ?_) (fun h1 => go (.inl h1))
      refine hu.get rfl (by omega) rfl htn ?_
      refine bcn (fun h2 => ?_) (fun h2 => go (.inr h2))
      have e : totB M n = false := by
        rw [← Bool.not_eq_true, totB_iff]
        rintro ⟨_, h'⟩
        rcases h' t htn x (by omega) with e | e | e
        · omega
        · rw [h1] at e; cases e
        · rw [h2] at e; cases e
      rwa [e] at hK
    · refine chk (by omega) ⟨⟨t + 1, by omega, by omega, rfl, fun a ha b hb => ?_⟩, by first | omega | (dsimp only; omega)⟩
      by_cases e : a = t
      · subst e; exact hin b (by omega)
      · exact hall a (by omega) b hb
  · refine centoref2_Rel_IsOrder.c hu ?_
    have e : totB M n = ordB M n := by
      rw [Bool.eq_iff_iff, totB_iff, ordB_iff]
      refine ⟨fun g => g.1, fun g => ⟨g, fun a ha b hb => ?_⟩⟩
      rcases Nat.lt_trichotomy a b with h1 | h1 | h1
      · exact .inr ((hall b (by omega) a h1).symm)
      · exact .inl h1
      · exact .inr (hall a (by omega) b h1)
    rwa [e] at hK
end Go.Proofs.YteijgmmjgbgffaaDoor
