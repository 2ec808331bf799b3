/- Contracts. -/
import Derived.Test.YteijgmmjgbgffaaDoorO3
namespace Go.Proofs.YteijgmmjgbgffaaDoor
open Go.V
/-! ### The row -/
def freeL (M : Nat → Nat → Bool) (rem : List Nat) (h : Nat) : Bool := rem.all fun g => decide (g = h) || !M g h
def srtS (M : Nat → Nat → Bool) (n : Nat) : Nat → List Nat → List Nat
  | 0, _ => []
  | k + 1, rem => match rem.find? (freeL M rem) with
    | none => []
    | some h => clsM M n h ++ srtS M n k (rem.erase h)
def srt (M : Nat → Nat → Bool) (n : Nat) : List Nat := srtS M n (hdsM M n).length (hdsM M n)
theorem srtS_some {M : Nat → Nat → Bool} {n h : Nat} {rem : List Nat} (e : rem.find? (freeL M rem) = some h) : srtS M n rem.length rem = clsM M n h ++ srtS M n (rem.erase h).length (rem.erase h) := by
  have hm := List.mem_of_find?_eq_some e
  have hl := List.length_erase_of_mem hm
  have hp : 0 < rem.length := List.length_pos_of_mem hm
  obtain ⟨k, hk⟩ : ∃ k, rem.length = k + 1 := ⟨rem.length - 1, by omega⟩
  rw [hk, srtS, e, hl, hk]; rfl
theorem srtS_none {M : Nat → Nat → Bool} {n : Nat} {rem : List Nat} (e : rem.find? (freeL M rem) = none) : srtS M n rem.length rem = [] := by
  cases h : rem.length with
  | zero => rfl
  | succ k => rw [srtS, e]
theorem find_at {p : Nat → Bool} {l : List Nat} {i : Nat} (hi : i < l.length) (hp : p l[i] = true) (hn : ∀ j (h : j < i), p (l[j]'(by omega)) = false) : l.find? p = some l[i] := by
  rw [List.find?_eq_some_iff_getElem]
  exact ⟨hp, i, hi, rfl, fun j hj => by rw [hn j hj]; rfl⟩
theorem find_no {p : Nat → Bool} {l : List Nat} (hn : ∀ j (h : j < l.length), p l[j] = false) : l.find? p = none := by
  rw [List.find?_eq_none]
  intro x hx
  obtain ⟨j, hj, rfl⟩ := List.mem_iff_getElem.1 hx
  rw [hn j hj]; decide
theorem map_eraseIdx' {α β : Type} {f : α → β} : ∀ (l : List α) (i : Nat), (l.eraseIdx i).map f = (l.map f).eraseIdx i
  | [], _ => rfl
  | _ :: _, 0 => rfl
  | a :: l, i + 1 => by simp [List.eraseIdx, map_eraseIdx' l i]
theorem erase_get' : ∀ {l : List Nat} (_ : l.Nodup) {i : Nat} (hi : i < l.length), l.erase l[i] = l.eraseIdx i
  | a :: l, hd, 0, _ => by simp
  | a :: l, hd, i + 1, hi => by
    have hi' : i < l.length := by simpa using hi
    have hne : a ≠ l[i] := fun e => (List.nodup_cons.1 hd).1 (e ▸ List.getElem_mem _)
    simp only [List.getElem_cons_succ, List.eraseIdx_cons_succ]
    rw [List.erase_cons_tail (by simpa using hne), erase_get' (List.nodup_cons.1 hd).2 hi']
theorem cls_hd {M : Nat → Nat → Bool} {n a : Nat} (h : a < n) : (clsM M n a).getD 0 0 = a ∧ clsM M n a ≠ [] := by rw [clsM_prog h]; exact ⟨rfl, by simp⟩

theorem order_first.c {c n l cc i : Nat} {M : Nat → Nat → Bool} {O : List Nat} {A H : Hp} {p : Option Addr} {rem : List Nat} {K : Bool → Hp → Prop} (hu : RLO H c O n M) (hR : Rw A H p l cc (rem.map (clsM M n))) (hn : ∀ x ∈ rem, x < n) (hd : rem.Nodup)
    (hi : i < rem.length) (hrl : rem.length ≤ 1000) (hK : K (freeL M rem rem[i]) H) : order_first.C (some ⟨c, 0, none⟩) p l cc (i : Int) H K := by
  apply order_first.of
  have hl := hR.len
  rw [List.length_map] at hl
  refine ⟨fun k Hx => ∃ k' : Nat, k = k' ∧ k' ≤ l ∧ H = Hx ∧ (rem.take k').all (fun g => decide (g = rem[i]) || !M g rem[i]) = true, fun k _ => (l - k).toNat, ⟨0, rfl, by omega, rfl, rfl⟩, ?_⟩
  rintro k _ ⟨k, rfl, hk, rfl, hall⟩
  have hget : ∀ j (h : j < rem.length), (rem.map (clsM M n))[j]'(by simpa using h) = clsM M n rem[j] := fun j h => by simp
  refine bcd (fun h => ?_) (fun h => ?_)
  · have hkr : k < rem.length := by omega
    have e1 := cls_hd (M := M) (hn _ (List.getElem_mem hkr))
    have e2 := cls_hd (M := M) (hn _ (List.getElem_mem hi))
    have next : (decide (rem[k] = rem[i]) || !M rem[k] rem[i]) = true → (rem.take (k + 1)).all (fun g => decide (g = rem[i]) || !M g rem[i]) = true := fun h => by
      rw [List.take_succ_eq_append_getElem hkr, List.all_append, hall]; simpa using h
    refine hR.at rfl (by simpa using hkr) fun q l' c' hs _ _ => ?_
    have hl' := hs.len
    rw [hget k hkr] at hs hl'
    refine bcd (fun hne => ?_) (fun heq => ?_)
    · have hpos : 0 < (clsM M n rem[k]).length := List.length_pos_iff.2 e1.2
      refine slI hs (g := fun (x : Nat) => (x : Int)) (fun _ => rfl) (by omega) (by omega) fun _ => ?_
      have g1 : (clsM M n rem[k])[(0 : Int).toNat]'(by simpa using hpos) = rem[k] := by
        have e := e1.1
        simpa [List.getD, hpos] using e
      rw [g1]
      refine hR.hd rfl (by simpa using hi) (by rw [hget i hi]; exact e2.2) ?_
      rw [hget i hi, e2.1]
      refine rel_Rel_Has.c hu ?_
      rw [hasM_nat]
      refine bc_i (fun hm => ?_) (fun hm => ?_)
      · have : freeL M rem rem[i] = false := by
          unfold freeL
          rw [List.all_eq_false]
          refine ⟨rem[k], List.getElem_mem hkr, ?_⟩
          have hne' : ¬ rem[k] = rem[i] := fun e => by have := nodup_inj hd hkr hi e; omega
          simp [hne', hm]
        rwa [this] at hK
      · exact chk (by omega) ⟨⟨k + 1, by omega, by omega, rfl, next (by rw [hm]; simp)⟩, by first | omega | (dsimp only; omega)⟩
    · have : k = i := by omega
      subst this
      exact chk (by omega) ⟨⟨k + 1, by omega, by omega, rfl, next (by simp)⟩, by first | omega | (dsimp only; omega)⟩
  · have e : freeL M rem rem[i] = true := by
      rw [List.take_of_length_le (by omega)] at hall; exact hall
    rwa [e] at hK

theorem order_Sort.c {r : Option Addr} {n : Nat} {M : Nat → Nat → Bool} {H : Hp} {K : Option Addr → Nat → Nat → Hp → Prop} (hu : RN H r n M) (hn : n ≤ 200)
    (hK : ∀ p l cc H', Sl iv H' p l cc (srt (clo M n) n) → Le H H' → K p l cc H') : order_Sort.C r H K := by
  apply order_Sort.of
  refine order_closed.c hu fun R O H1 u hT hO le1 => ?_
  refine order_circles.c u hT fun p0 l0 c0 H2 hR le2 => ?_
  have hhl := hds_len (M := clo M n) (n := n)
  have u2 := u.le le2
  have fresh : ∀ x ∈ blkL p0, H x = none ∧ H1 x = none := fun x hx => by
    obtain ⟨hs, _, hB, _⟩ := hR
    have := hB.fr x 0 (blkL_mem hB.zero hx)
    exact ⟨none_of_le le1 this, this⟩
  have there0 : ∀ x ∈ blkL p0, H2 x ≠ none := fun x hx => by
    obtain ⟨hs, _, hB, _⟩ := hR
    exact hB.there (blkL_mem hB.zero hx)
  let P : Hd × Nat → Prop := fun z => Sl iv H2 z.1.1 z.1.2.1 z.1.2.2 (clsM (clo M n) n z.2) ∧ New H1 z.1.1 ∧ (∀ x ∈ blkL z.1.1, H2 x ≠ none) ∧ PtOk z.1.1 ∧ Apart p0 z.1.1 ∧ z.2 < n
  -- the state as rows
  have toRw : ∀ {Hx : Hp} {l c : Nat} {zs : List (Hd × Nat)}, Buf 1 H1 Hx p0 l c ((zs.map Prod.fst).map hv) → (∀ z ∈ zs, P z) → Mod (blkL p0) H2 Hx → Rw H1 Hx p0 l c ((zs.map Prod.snd).map (clsM (clo M n) n)) := by
    intro Hx l c zs hB hP hm
    refine ⟨zs.map Prod.fst, by simp, hB, fun k h h' => ?_⟩
    simp only [List.getElem_map]
    obtain ⟨g1, g2, g3, g4, g5, _⟩ := hP _ (List.getElem_mem (by simpa using h))
    have hno : ∀ x ∈ blkL (zs[k]'(by simpa using h)).1.1, x ∉ blkL p0 := fun x hx hb => by
      obtain ⟨hs, _, hB, _⟩ := hR
      have hpz := blkL_mem hB.zero hb
      rcases g4 with e | ⟨b', o, e⟩
      · rw [e] at hx; simp [blkL] at hx
      · rw [e] at hx; simp [blkL] at hx; subst hx; exact g5 _ _ _ hpz e
    exact ⟨g1.mod hm fun x o e => hno x (blkL_some e), g2, fun x hx => by rw [eq_of_mod hm (hno x hx) (g3 x hx)]; exact g3 x hx, g4, g5⟩
  have start : ∃ zs : List (Hd × Nat), Buf 1 H1 H2 p0 l0 c0 ((zs.map Prod.fst).map hv) ∧ (∀ z ∈ zs, P z) ∧ zs.map Prod.snd = hdsM (clo M n) n := by
    obtain ⟨hs, h1, h2, h3⟩ := hR
    rw [crc_len] at h1
    refine ⟨hs.zip (hdsM (clo M n) n), ?_, fun z hz => ?_, ?_⟩
    · rw [List.map_fst_zip (by omega)]; exact h2
    · obtain ⟨k, hk, rfl⟩ := List.mem_iff_getElem.1 hz
      have hk1 : k < hs.length := by simp at hk; omega
      have hk2 : k < (crc (clo M n) n).length := by rw [crc_len]; omega
      obtain ⟨g1, g2, g3, g4, g5⟩ := h3 k hk1 hk2
      simp only [List.getElem_zip]
      rw [crc_get] at g1
      exact ⟨g1, g2, g3, g4, g5, (hds_mem.1 (List.getElem_mem _)).1⟩
    · rw [List.map_snd_zip (by omega)]
  obtain ⟨zs0, hB0, hP0, hz0⟩ := start
  refine ⟨fun cp cl cc op ol oc Hx => ∃ (zs : List (Hd × Nat)) (out : List Nat), cp = p0 ∧ Buf 1 H1 Hx cp cl cc ((zs.map Prod.fst).map hv) ∧ (∀ z ∈ zs, P z) ∧ (zs.map Prod.snd).Nodup ∧ zs.length ≤ n ∧ Mod (blkL p0) H2 Hx ∧ Buf 1 H2 Hx op ol oc (out.map iv) ∧
    out ++ srtS (clo M n) n zs.length (zs.map Prod.snd) = srt (clo M n) n ∧ out.length + n * zs.length ≤ n * n, fun _ cl _ _ _ _ _ => cl,
    ⟨zs0, [], rfl, hB0, hP0, by rw [hz0]; exact hds_nodup, by have : zs0.length = (hdsM (clo M n) n).length := by rw [← hz0]; simp
                                                              omega, .refl, Buf.none, ?_, ?_⟩, ?_⟩
  · have : zs0.length = (hdsM (clo M n) n).length := by rw [← hz0]; simp
    rw [this, hz0]; rfl
  · have : zs0.length = (hdsM (clo M n) n).length := by rw [← hz0]; simp
    simp only [List.length_nil, Nat.zero_add]
    exact Nat.mul_le_mul_left n (by omega)
  rintro cp cl cc op ol oc Hx ⟨zs, out, rfl, hB, hP, hnd, hzl, mx, hO', hsrt, hlen⟩
  have hcl : cl = zs.length := by have := hB.1; simpa using this
  have hol : ol = out.length := by have := hO'.1; simpa using this
  have h40 : n * n ≤ 40000 := Nat.mul_le_mul hn hn
  refine bcd (fun h => ?_) (fun h => ?_)
  · refine ⟨fun cp' cl' cc' op' ol' oc' i Hy => ∃ i' : Nat, i = i' ∧ i' ≤ cl ∧ cp = cp' ∧ cl = cl' ∧ cc = cc' ∧ op = op' ∧ ol = ol' ∧ oc = oc' ∧ Hx = Hy ∧ ∀ j (h : j < i') (h' : j < (zs.map Prod.snd).length), freeL (clo M n) (zs.map Prod.snd) (zs.map Prod.snd)[j] = false, fun _ _ _ _ _ _ i _ => (cl - i).toNat,
      ⟨0, rfl, by omega, rfl, rfl, rfl, rfl, rfl, rfl, rfl, fun j h => absurd h (Nat.not_lt_zero _)⟩, ?_⟩
    rintro _ _ _ _ _ _ i _ ⟨i, rfl, hi, rfl, rfl, rfl, rfl, rfl, rfl, rfl, hno⟩
    have hRw := toRw hB hP mx
    refine bcd (fun h => ?_) (fun h => ?_)
    · have hiz : i < zs.length := by omega
      have him : i < (zs.map Prod.snd).length := by simpa using hiz
      have hux : RLO Hx R O n (clo M n) := u2.mod mx (fun x hx hxO => u.there _ hxO (fresh x hx).2) (fun hx => u.tz.there (fresh _ hx).2)
      refine hRw.at rfl (by simpa using hiz) fun q l' c' hs hpt _ => ?_
      have hs' : Sl iv Hx q l' c' (clsM (clo M n) n (zs.map Prod.snd)[i]) := by simpa using hs
      have hl' := hs'.len
      have hcn := clsM_len (M := clo M n) (n := n) (a := (zs.map Prod.snd)[i])
      refine order_first.c hux hRw (fun x hx => by obtain ⟨z, hz, rfl⟩ := List.mem_map.1 hx; exact (hP z hz).2.2.2.2.2) hnd him (by simp; omega) ?_
      refine bc_i (fun hf => ?_) (fun hf => ?_)
      · have hfind := find_at (p := freeL (clo M n) (zs.map Prod.snd)) him hf fun j hj => hno j hj (by omega)
        have hsome := srtS_some (n := n) hfind
        rw [List.length_map] at hsome
        have her : (zs.map Prod.snd).erase (zs.map Prod.snd)[i] = (zs.eraseIdx i).map Prod.snd := by
          rw [map_eraseIdx']
          exact erase_get' hnd him
        have hle1 : (zs.eraseIdx i).length = zs.length - 1 := List.length_eraseIdx_of_lt hiz
        have hmul : n + n * (zs.length - 1) = n * zs.length := by
          obtain ⟨k, hk⟩ : ∃ k, zs.length = k + 1 := ⟨zs.length - 1, by omega⟩
          rw [hk, Nat.add_sub_cancel, Nat.mul_add, Nat.mul_one, Nat.add_comm]
        refine hO'.appS (n := l') (new := (clsM (clo M n) n (zs.map Prod.snd)[i]).map iv) rfl (by decide) rfl (by decide) (by simp [hl']) (by rw [List.all_eq_true]; intro v hvv; obtain ⟨y, _, rfl⟩ := List.mem_map.1 hvv; rfl) (by simp [te_int]; omega)
          (fun G hG => sl_srcG hs' hpt G hG) (fun p' c' H' hO2 hp' hm => ?_) ?_
        · refine chk (by omega) ?_
          have hpo : ∀ x ∈ blkL op, H2 x = none := fun x hx => hO'.fr x 0 (blkL_mem hO'.zero hx)
          have hB2 := hB.mod hm fun x o e hx => there0 x (blkL_some e) (hpo x hx)
          refine slices_Delete_int_int.c hB2 (by simpa using hiz) rfl fun H3 hB3 m3 => ?_
          have hO3 := hO2.mod m3 fun x o e hx => there0 x hx (hO2.fr x o e)
          refine ⟨⟨zs.eraseIdx i, out ++ clsM (clo M n) n (zs.map Prod.snd)[i], rfl, by rw [map_eraseIdx']; exact hB3, fun z hz => hP z (List.mem_of_mem_eraseIdx hz), by rw [← her]; exact hnd.erase _, by omega,
            (mx.via hm fun x hx => .inr (hpo x hx)).trans m3, by rw [List.map_append]; exact hO3, ?_, ?_⟩, by first | omega | (dsimp only; omega)⟩
          · rw [List.append_assoc, ← her, ← hsrt, hsome, her, List.length_map]
          · rw [List.length_append]
            have : n * (zs.eraseIdx i).length = n * (zs.length - 1) := by rw [hle1]
            omega
        · exact mx.was fun x hx => hB.there (blkL_mem hB.zero hx)
      · exact chk (by omega) ⟨⟨i + 1, by omega, by omega, rfl, rfl, rfl, rfl, rfl, rfl, rfl, fun j hj hj' => by
          by_cases e : j = i
          · subst e; exact hf
          · exact hno j (by omega) hj'⟩, by first | omega | (dsimp only; omega)⟩
    · have hfind := find_no (p := freeL (clo M n) (zs.map Prod.snd)) (l := zs.map Prod.snd) fun j hj => hno j (by simp at hj; omega) hj
      have hnone := srtS_none (n := n) hfind
      rw [List.length_map] at hnone
      rw [hnone, List.append_nil] at hsrt
      rw [← hsrt] at hK
      exact hK _ _ _ _ hO'.sl (mx.le (le1.trans le2) fun x hx => (fresh x hx).1)
  · have h0 : zs = [] := List.length_eq_zero_iff.1 (by omega)
    subst h0
    have e : out = srt (clo M n) n := by simpa [srtS] using hsrt
    rw [← e] at hK
    exact hK _ _ _ _ hO'.sl (mx.le (le1.trans le2) fun x hx => (fresh x hx).1)
end Go.Proofs.YteijgmmjgbgffaaDoor
