/- Contracts and plain laws that the claim rests on, for every input: no condition. -/
import Derived.Test.YtbpbgkpkkklipaaGreatZ4
namespace Go.Proofs.YtbpbgkpkkklipaaGreat
open Go.V
/-! ### The document's patches: rows, paths -/
theorem bcnd {p : Prop} [Decidable p] {A B : Prop} (h : ¬p → A) (h' : p → B) : bc (!decide p) A B := bcn (fun e => h (of_decide_eq_false e)) fun e => h' (of_decide_eq_true e)
/-- A row is gone through, as far as all are right. -/
theorem allRow {α : Type} {f : α → Bool} {xs : List α} {i : Nat} (hi : i < xs.length) (h : f xs[i] = false) : xs.all f = false := all_bad hi h
def risB (xs : List Int) : Bool := rsB Sort.ltInt xs && !decide ((0 : Int) ∈ xs)
def pathsR (xs : List BL) : Bool := rsB Sort.ltStr xs && xs.all pathB
section
variable {H : Hp} {K : Bool → Hp → Prop} {p q : Option Addr} {l cc m dd : Nat}
theorem centoref12_IsPath.c {s : BL} (hs : s.length ≤ 1000000000) (hK : K (pathB s) H) : centoref12_IsPath.C (mkB s) H K := by
  apply centoref12_IsPath.of
  have hz : (mkB s).size = s.length := mkB_size s
  refine ⟨fun t Hx => ∃ i : Nat, t = (i : Nat) ∧ i ≤ s.length ∧ Hx = H ∧ (s.take i).all pathC = true, fun t _ => ((s.length : Int) - t).toNat, ⟨0, rfl, Nat.zero_le _, rfl, rfl⟩, ?_⟩
  rintro t Hx ⟨i, rfl, gi, rfl, hp⟩
  refine bcd (fun hlt => ?_) fun hlt => ?_
  · have hi : i < s.length := by omega
    refine idxN i rfl (by omega) ?_
    rw [getD_Lp (by omega)]
    have ec : (L (mkB s))[i]'(by rw [← L_size]; omega) = s[i] := rfl
    simp only [ec]
    have next : pathC s[i] = true → CHK .i64 (((i : Nat) : Int) + (1 : Int)) fun x => (∃ i : Nat, x = (i : Nat) ∧ i ≤ s.length ∧ True ∧ (s.take i).all pathC = true) ∧ ((s.length : Int) - x).toNat < ((s.length : Int) - ((i : Nat) : Int)).toNat := fun h =>
      chk (by omega) ⟨⟨i + 1, by omega, by omega, trivial, by rw [List.take_succ_eq_append_getElem hi, List.all_append, hp]; simp [h]⟩, by omega⟩
    have bad : pathC s[i] = false → K false Hx := fun h => by
      have : s.all pathC = false := List.all_eq_false.2 ⟨_, List.getElem_mem hi, by rw [h]; decide⟩
      unfold pathB at hK
      rw [this, Bool.and_false] at hK; exact hK
    unfold pathC at next bad
    repeat' first | refine bcnd (fun _ => ?_) fun _ => ?_ | refine bcd (fun _ => ?_) fun _ => ?_
    all_goals first | exact next (by rw [decide_eq_true_eq]; omega) | exact bad (by rw [decide_eq_false_iff_not]; omega)
  · rw [List.take_of_length_le (by omega)] at hp
    unfold pathB at hK
    rw [hp, Bool.and_true] at hK
    refine bcd (fun h1 => ?_) fun h1 => ?_
    · have hne : s ≠ [] := fun e => by
        have : s.length = 0 := by rw [e]; rfl
        omega
      rw [decide_eq_true hne, Bool.true_and] at hK
      have : decide ((((mkB s).size : Nat) : Int) ≤ (20 : Int)) = decide (s.length ≤ 20) := decide_eq_decide.2 (by omega)
      rw [this]; exact hK
    · have he : s = [] := List.length_eq_zero_iff.1 (by omega)
      rw [decide_eq_false (fun h => h he)] at hK; exact hK
theorem centoref12_Rising.c {xs : List Int} (h : Sl fU H p l cc xs) (hl : l ≤ 1000000000) (hK : K (risB xs) H) : centoref12_Rising.C p l cc H K := by
  apply centoref12_Rising.of
  have e := h.len
  unfold risB at hK
  refine ⟨fun t Hx => ∃ i : Nat, t = (i : Nat) ∧ i ≤ l ∧ Hx = H ∧ rsB Sort.ltInt (xs.take i) = true ∧ (0 : Int) ∉ xs.take i, fun t _ => ((l : Int) - t).toNat, ⟨0, rfl, Nat.zero_le _, rfl, rfl, by simp⟩, ?_⟩
  rintro t Hx ⟨i, rfl, gi, rfl, hr, h0⟩
  refine bcd (fun hlt => ?_) fun hlt => ?_
  · have hi : i < xs.length := by omega
    refine rsU h rfl hi (bcd (fun hz => ?_) fun hz => ?_)
    · rw [decide_eq_true (by rw [← hz]; exact List.getElem_mem hi), Bool.not_true, Bool.and_false] at hK; exact hK
    have n0 : (0 : Int) ∉ xs.take (i + 1) := fun hm => by
      rw [List.take_succ_eq_append_getElem hi, List.mem_append] at hm
      rcases hm with hm | hm
      · exact h0 hm
      · simp at hm; exact hz hm.symm
    refine bcd (fun hp => ?_) fun hp => ?_
    · refine rsU h rfl hi (chk (by omega) (rsU h (k := i - 1) (by omega) (by omega) (bcd (fun hle => ?_) fun hgt => ?_)))
      · rw [rsB_bad hi (by omega) (by unfold Sort.ltInt; rw [decide_eq_false_iff_not]; omega)] at hK; exact hK
      · exact chk (by omega) ⟨⟨i + 1, by omega, by omega, by trivial, rsB_next hi (by omega) hr (by unfold Sort.ltInt; rw [decide_eq_true_eq]; omega), n0⟩, by first | omega | (dsimp only; omega)⟩
    · exact chk (by omega) ⟨⟨i + 1, by omega, by omega, by trivial, rsB_one (by rw [List.length_take]; omega), n0⟩, by first | omega | (dsimp only; omega)⟩
  · rw [List.take_of_length_le (by omega)] at hr h0
    rw [hr, decide_eq_false h0] at hK; exact hK
theorem le_str (x y : BL) : (Op.bytesLess (mkB x).toList (mkB y).toList || decide (mkB x = mkB y)) = !Sort.ltStr y x := by rw [← ltStr_gt, Bool.not_not]
theorem centoref12_paths.c {xs : List BL} (h : Sl sv H p l cc xs) (hl : l ≤ 1000000000) (ht : ∀ s ∈ xs, s.length ≤ 1000000000) (hK : K (pathsR xs) H) : centoref12_paths.C p l cc H K := by
  apply centoref12_paths.of
  have e := h.len
  unfold pathsR at hK
  refine ⟨fun t Hx => ∃ i : Nat, t = (i : Nat) ∧ i ≤ l ∧ Hx = H ∧ rsB Sort.ltStr (xs.take i) = true ∧ (xs.take i).all pathB = true, fun t _ => ((l : Int) - t).toNat, ⟨0, rfl, Nat.zero_le _, rfl, rfl, rfl⟩, ?_⟩
  rintro t Hx ⟨i, rfl, gi, rfl, hr, h0⟩
  refine bcd (fun hlt => ?_) fun hlt => ?_
  · have hi : i < xs.length := by omega
    refine rsT h rfl hi (centoref12_IsPath.c (ht _ (List.getElem_mem hi)) (bcn (fun hz => ?_) fun hz => ?_))
    · rw [all_bad hi hz, Bool.and_false] at hK; exact hK
    have n0 := all_next hi h0 hz
    refine bcd (fun hp => ?_) fun hp => ?_
    · refine rsT h rfl hi (chk (by omega) (rsT h (k := i - 1) (by omega) (by omega) ?_))
      rw [le_str]
      refine bcn (fun hle => ?_) fun hgt => ?_
      · rw [rsB_bad hi (by omega) hle] at hK; exact hK
      · exact chk (by omega) ⟨⟨i + 1, by omega, by omega, by trivial, rsB_next hi (by omega) hr hgt, n0⟩, by first | omega | (dsimp only; omega)⟩
    · exact chk (by omega) ⟨⟨i + 1, by omega, by omega, by trivial, rsB_one (by rw [List.length_take]; omega), n0⟩, by first | omega | (dsimp only; omega)⟩
  · rw [List.take_of_length_le (by omega)] at hr h0
    rw [hr, h0] at hK; exact hK
theorem centoref12_In.c {xs : List BL} {v : BL} (h : Sl sv H p l cc xs) (hl : l ≤ 1000000000) (hK : K (decide (v ∈ xs)) H) : centoref12_In.C p l cc (mkB v) H K := by
  apply centoref12_In.of
  have e := h.len
  refine ⟨fun t Hx => ∃ i : Nat, t = (i : Nat) ∧ i ≤ l ∧ Hx = H ∧ v ∉ xs.take i, fun t _ => ((l : Int) - t).toNat, ⟨0, rfl, Nat.zero_le _, rfl, by simp⟩, ?_⟩
  rintro t Hx ⟨i, rfl, gi, rfl, hn⟩
  refine bcd (fun hlt => ?_) fun hlt => ?_
  · have hi : i < xs.length := by omega
    refine rsT h rfl hi (bcd (fun he => ?_) fun he => chk (by omega) ⟨⟨i + 1, by omega, by omega, by trivial, fun hm => ?_⟩, by first | omega | (dsimp only; omega)⟩)
    · have he := mkB_eq he
      rw [decide_eq_true (by rw [← he]; exact List.getElem_mem hi)] at hK; exact hK
    · rw [List.take_succ_eq_append_getElem hi, List.mem_append] at hm
      rcases hm with hm | hm
      · exact hn hm
      · simp at hm; exact he (by rw [hm])
  · rw [List.take_of_length_le (by omega)] at hn
    rw [decide_eq_false hn] at hK; exact hK
theorem take_ne {α : Type} {xs ys : List α} {i : Nat} (hi : i < xs.length) (hj : i < ys.length) (h : ¬ xs[i] = ys[i]) : ¬ xs = ys := fun e => by subst e; exact h rfl
theorem take_next {α : Type} {xs ys : List α} {i : Nat} (hi : i < xs.length) (hj : i < ys.length) (h : xs[i] = ys[i]) (ht : xs.take i = ys.take i) : xs.take (i + 1) = ys.take (i + 1) := by
  rw [List.take_succ_eq_append_getElem hi, List.take_succ_eq_append_getElem hj, ht, h]
theorem centoref12_SameIDs.c {xs ys : List Int} (h : Sl fU H p l cc xs) (h2 : Sl fU H q m dd ys) (hl : l ≤ 1000000000) (hK : K (decide (xs = ys)) H) : centoref12_SameIDs.C p l cc q m dd H K := by
  apply centoref12_SameIDs.of
  have e1 := h.len
  have e2 := h2.len
  refine bcd (fun hn => ?_) fun hn => ?_
  · rw [decide_eq_false (fun e => hn (by rw [e1, e2, e]))] at hK; exact hK
  refine ⟨fun t Hx => ∃ i : Nat, t = (i : Nat) ∧ i ≤ l ∧ Hx = H ∧ xs.take i = ys.take i, fun t _ => ((l : Int) - t).toNat, ⟨0, rfl, Nat.zero_le _, rfl, rfl⟩, ?_⟩
  rintro t Hx ⟨i, rfl, gi, rfl, ht⟩
  refine bcd (fun hlt => ?_) fun hlt => ?_
  · have hi : i < xs.length := by omega
    have hj : i < ys.length := by omega
    refine rsU h rfl hi (rsU h2 rfl hj (bcd (fun he => ?_) fun he => ?_))
    · rw [decide_eq_false (take_ne hi hj he)] at hK; exact hK
    · exact chk (by omega) ⟨⟨i + 1, by omega, by omega, by trivial, take_next hi hj (Classical.not_not.1 he) ht⟩, by first | omega | (dsimp only; omega)⟩
  · rw [List.take_of_length_le (by omega), List.take_of_length_le (by omega)] at ht
    rw [decide_eq_true ht] at hK; exact hK
theorem centoref12_sameTexts.c {xs ys : List BL} (h : Sl sv H p l cc xs) (h2 : Sl sv H q m dd ys) (hl : l ≤ 1000000000) (hK : K (decide (xs = ys)) H) : centoref12_sameTexts.C p l cc q m dd H K := by
  apply centoref12_sameTexts.of
  have e1 := h.len
  have e2 := h2.len
  refine bcd (fun hn => ?_) fun hn => ?_
  · rw [decide_eq_false (fun e => hn (by rw [e1, e2, e]))] at hK; exact hK
  refine ⟨fun t Hx => ∃ i : Nat, t = (i : Nat) ∧ i ≤ l ∧ Hx = H ∧ xs.take i = ys.take i, fun t _ => ((l : Int) - t).toNat, ⟨0, rfl, Nat.zero_le _, rfl, rfl⟩, ?_⟩
  rintro t Hx ⟨i, rfl, gi, rfl, ht⟩
  refine bcd (fun hlt => ?_) fun hlt => ?_
  · have hi : i < xs.length := by omega
    have hj : i < ys.length := by omega
    refine rsT h rfl hi (rsT h2 rfl hj (bcdT (fun he => ?_) fun he => ?_))
    · rw [decide_eq_false (take_ne hi hj he)] at hK; exact hK
    · exact chk (by omega) ⟨⟨i + 1, by omega, by omega, by trivial, take_next hi hj he ht⟩, by first | omega | (dsimp only; omega)⟩
  · rw [List.take_of_length_le (by omega), List.take_of_length_le (by omega)] at ht
    rw [decide_eq_true ht] at hK; exact hK
theorem centoref12_Less.c {x y : Lid} (hK : ∀ H', Le H H' → K (lidLt x y) H') : centoref12_Less.C x.p x.n y.p y.n H K := by
  apply centoref12_Less.of
  intro b hb b2 hb2
  have l1 := Le.upd (c := [.int .u32 x.p, .int .i64 x.n]) hb
  have l2 := Le.upd (c := [.int .u32 y.p, .int .i64 y.n]) hb2
  have d1 := (DL.new (H := H) (b := b) (x := x)).le l2
  have d2 := DL.new (H := upd H b [.int .u32 x.p, .int .i64 x.n]) (b := b2) (x := y)
  have hK := hK _ (l1.trans l2)
  unfold lidLt at hK
  refine ldI_i d1.1 (ldI_i d2.1 (bcd (fun h => ?_) fun h => ldI_i d1.1 (ldI_i d2.1 (bcd (fun h2 => ldI_i d1.2 (ldI_i d2.2 ?_)) fun h2 => ?_))))
  · rw [decide_eq_true h] at hK; exact hK
  · rw [decide_eq_false h, decide_eq_true h2] at hK; exact hK
  · rw [decide_eq_false h, decide_eq_false h2] at hK; exact hK
theorem centoref12_named.c {x : Lid} {id a n : Int} (hK : ∀ H', Le H H' → K (namedB id a n x) H') : centoref12_named.C x.p x.n id a (a + n) H K := by
  apply centoref12_named.of
  intro b hb
  have l1 := Le.upd (c := [.int .u32 x.p, .int .i64 x.n]) hb
  have d1 := DL.new (H := H) (b := b) (x := x)
  have hK := hK _ l1
  unfold namedB at hK
  refine ldI_i d1.2 (bcd (fun h1 => ldI_i d1.2 (bcd (fun h2 => ldI_i d1.1 (bcd (fun h3 => ?_) fun h3 => ldI_i d1.2 (bcd (fun h4 => ldI_i d1.2 ?_) fun h4 => ?_))) fun h2 => ?_)) fun h1 => ?_)
  · rw [decide_eq_true h1, decide_eq_true h2, decide_eq_true h3] at hK; exact hK
  · rw [decide_eq_true h1, decide_eq_true h2, decide_eq_false h3, decide_eq_true h4] at hK; exact hK
  · rw [decide_eq_true h1, decide_eq_true h2, decide_eq_false h3, decide_eq_false h4] at hK; exact hK
  · rw [decide_eq_true h1, decide_eq_false h2] at hK; exact hK
  · rw [decide_eq_false h1] at hK; exact hK
end
end Go.Proofs.YtbpbgkpkkklipaaGreat
namespace Go.Proofs.YtbpbgkpkkklipaaGreat
open Go.V
/-! ### The document's rows that rise -/
theorem cutWhile {α : Type} {f : α → Bool} : ∀ {xs : List α} {i : Nat}, (∀ y ∈ xs.take i, f y = true) → (xs.length ≤ i ∨ ∃ h : i < xs.length, f xs[i] = false) → xs.takeWhile f = xs.take i ∧ xs.dropWhile f = xs.drop i
  | [], i, _, _ => by simp
  | x :: xs, 0, _, h => by
    rcases h with h | ⟨_, h⟩
    · simp at h
    · have h : f x = false := h
      simp [h]
  | x :: xs, i + 1, hp, h => by
    have hx : f x = true := hp x (by simp)
    have ih := cutWhile (xs := xs) (i := i) (fun y hy => hp y (by simp [hy])) (by
      rcases h with h | ⟨h1, h2⟩
      · exact .inl (by simpa using h)
      · exact .inr ⟨by simpa using h1, by simpa using h2⟩)
    simp [hx, ih.1, ih.2]
theorem all_cell {α : Type} {f : α → Value} (hf : ∀ x, isCell (f x) = true) (ys : List α) : (ys.map f).all isCell = true := List.all_eq_true.2 fun v hv => by
  obtain ⟨x, _, rfl⟩ := List.mem_map.1 hv
  exact hf x
section
variable {H : Hp} {p : Option Addr} {l cc : Nat}
theorem centoref12_Put.c {xs : List Int} {v : Int} {K : Option Addr → Nat → Nat → Hp → Prop} (h : Sl fU H p l cc xs) (hl : l ≤ 10000000) (hK : ∀ p' l' c' H', Le H H' → Sl fU H' p' l' c' (putL Sort.ltInt xs v) → K p' l' c' H') : centoref12_Put.C p l cc v H K := by
  apply centoref12_Put.of
  have e := h.len
  have hc := h.2.1
  refine centoref12_Has.c h (by omega) (bcd (fun hm => ?_) fun hm => ?_)
  · have : putL Sort.ltInt xs v = xs := by unfold putL; rw [if_pos hm]
    exact hK p l cc H (Le.refl _) (by rw [this]; exact h)
  have cont : ∀ i : Nat, i ≤ l → xs.takeWhile (fun y => Sort.ltInt y v) = xs.take i → xs.dropWhile (fun y => Sort.ltInt y v) = xs.drop i → BND none (some ((i : Nat) : Int)) l cc fun j24 k25 => APP H te_uint32 none 0 0 (.slice (movA p j24 1 cc) (k25 - j24) (cc - j24)) fun xp26 xl27 xc28 Hx29 => NEW Hx29 ([.int .u32 v]) fun bq30 Hx31 => APP Hx31 te_uint32 xp26 xl27 xc28 (.slice (some ⟨bq30, 0, none⟩) 1 1) fun xp32 xl33 xc34 Hx35 => BND (some ((i : Nat) : Int)) none l cc fun j36 k37 => APP Hx35 te_uint32 xp32 xl33 xc34 (.slice (movA p j36 1 cc) (k37 - j36) (cc - j36)) fun xp38 xl39 xc40 Hx41 => K xp38 xl39 xc40 Hx41 := fun i hi e1 e2 => by
    refine bnd01 i rfl (by omega) ?_
    have hL := h.take (k := i) (by omega)
    refine (Buf.none (s := 1) (A := H) (H := H)).appN (n := i - 0) (new := (xs.take i).map fU) rfl (by decide) rfl (by decide) (by rw [List.length_map, List.length_take]; omega) (all_cell (fun _ => rfl) _) (by simp [te_uint32]; omega) (Le.refl H) (fun G hG => sl_src hL G hG) fun p1 c1 H1 hB1 l1 _ => ?_
    refine hB1.app1 l1 (te := te_uint32) (new := [.int .u32 v]) rfl (by decide) rfl (by decide) rfl rfl (by simp [te_uint32]; omega) fun p2 c2 H2 hB2 l2 _ => ?_
    refine bnd10 i rfl (by omega) ?_
    have hR := (h.le l2).slice (j := i) (k := l) (by omega) (by omega)
    refine hB2.appN (n := l - i) (new := ((xs.take l).drop i).map fU) rfl (by decide) rfl (by decide) (by rw [List.length_map, List.length_drop, List.length_take]; omega) (all_cell (fun _ => rfl) _) (by simp [te_uint32]; omega) l2 (fun G hG => sl_src hR G hG) fun p3 c3 H3 hB3 l3 _ => ?_
    refine hK p3 _ c3 H3 l3 (Buf.sl (c := c3) (A := H) ?_)
    have : putL Sort.ltInt xs v = xs.take i ++ v :: xs.drop i := by unfold putL; rw [if_neg hm, e1, e2]
    rw [this]
    have e3 : (xs.take l).drop i = xs.drop i := by rw [List.take_of_length_le (by omega)]
    rw [e3] at hB3
    have e4 : (xs.take i ++ v :: xs.drop i).map fU = [] ++ (xs.take i).map fU ++ [.int .u32 v] ++ (xs.drop i).map fU := by simp [fU]
    rw [e4]; exact hB3
  refine ⟨fun t Hx => ∃ i : Nat, t = (i : Nat) ∧ i ≤ l ∧ Hx = H ∧ ∀ y ∈ xs.take i, Sort.ltInt y v = true, fun t _ => ((l : Int) - t).toNat, ⟨0, rfl, Nat.zero_le _, rfl, by simp⟩, ?_⟩
  rintro t Hx ⟨i, rfl, gi, rfl, hp⟩
  refine bcd (fun hlt => ?_) fun hlt => ?_
  · have hi : i < xs.length := by omega
    refine rsU h rfl hi ?_
    show bc (Sort.ltInt xs[i] v) _ _
    refine bc_i (fun hb => ?_) fun hb => ?_
    · refine chk (by omega) ⟨⟨i + 1, by omega, by omega, by trivial, fun y hy => ?_⟩, by first | omega | (dsimp only; omega)⟩
      rw [List.take_succ_eq_append_getElem hi, List.mem_append] at hy
      rcases hy with hy | hy
      · exact hp y hy
      · simp at hy; subst hy; exact hb
    · obtain ⟨e1, e2⟩ := cutWhile hp (.inr ⟨hi, hb⟩)
      exact cont i gi e1 e2
  · obtain ⟨e1, e2⟩ := cutWhile (i := i) hp (.inl (by omega))
    exact cont i gi e1 e2
end
end Go.Proofs.YtbpbgkpkkklipaaGreat
namespace Go.Proofs.YtbpbgkpkkklipaaGreat
open Go.V
/-! ### The document: are hunks, patches the same; lines, paths, needs -/
section
variable {H Hx : Hp} {p : Option Addr} {l c : Nat} {hs : List Hk}
theorem rsHp (h : HkH H p l c hs) (le : Le H Hx) {k : Nat} {e : Int} (he : e = (k : Int)) (hk : k < hs.length) {F : ByteArray → Prop} (hF : F (mkB hs[k].path)) : IDX e l fun k => NIL p fun b o => ldS (rd Hx b (o + (k * 4))) F := by
  have hl := h.1
  rcases h.2.2 with h0 | ⟨b, o, rfl, hh⟩
  · subst h0; simp at hk
  · obtain ⟨ap, al, ac, ep, el, ec, kp, kl, kc, h1, h2, h3, h4, h5, h6, h7⟩ := hh k hk
    exact idxN k he (by omega) (nil (ldS_i (le.rd h1) hF))
theorem rsHa (h : HkH H p l c hs) (le : Le H Hx) {k : Nat} {e : Int} (he : e = (k : Int)) (hk : k < hs.length) {F : Option Addr → Nat → Nat → Prop} (hF : ∀ ap al ac, Sl sv H ap al ac hs[k].adds → F ap al ac) : IDX e l fun k => NIL p fun b o => ldL (rd Hx b ((o + (k * 4)) + 1)) F := by
  have hl := h.1
  rcases h.2.2 with h0 | ⟨b, o, rfl, hh⟩
  · subst h0; simp at hk
  · obtain ⟨ap, al, ac, ep, el, ec, kp, kl, kc, h1, h2, h3, h4, h5, h6, h7⟩ := hh k hk
    exact idxN k he (by omega) (nil (ldL_i (le.rd h2) (hF _ _ _ h5)))
end
section
variable {H : Hp}
theorem centoref12_SameHunk.b {K : Bool → Hp → Prop} {g h : Hk} {ap ep kp ap2 ep2 kp2 : Option Addr} {al ac el ec kl kc al2 ac2 el2 ec2 kl2 kc2 : Nat} (ha : Sl sv H ap al ac g.adds) (he : Sn 4 edC H ep el ec g.edges) (hk : Sn 2 lidC H kp kl kc g.kills)
    (ha2 : Sl sv H ap2 al2 ac2 h.adds) (he2 : Sn 4 edC H ep2 el2 ec2 h.edges) (hk2 : Sn 2 lidC H kp2 kl2 kc2 h.kills) (s1 : g.adds.length ≤ 1000) (s2 : g.edges.length ≤ 1000) (s3 : g.kills.length ≤ 1000) (hK : ∀ H', Le H H' → K (decide (g = h)) H') :
    centoref12_SameHunk.C (mkB g.path) ap al ac ep el ec kp kl kc (mkB h.path) ap2 al2 ac2 ep2 el2 ec2 kp2 kl2 kc2 H K := by
  apply centoref12_SameHunk.of
  have e1 := ha.len
  have e2 := he.len
  have e3 := hk.len
  have e4 := he2.len
  have e5 := hk2.len
  intro b hb b2 hb2
  have l1 := Le.upd (c := [.string (mkB g.path), .slice ap al ac, .slice ep el ec, .slice kp kl kc]) hb
  have l2 := Le.upd (c := [.string (mkB h.path), .slice ap2 al2 ac2, .slice ep2 el2 ec2, .slice kp2 kl2 kc2]) hb2
  have d1 := (D4.new (H := H) (b := b) (f := mkB g.path) (ap := ap) (al := al) (ac := ac) (ep := ep) (el := el) (ec := ec) (kp := kp) (kl := kl) (kc := kc)).le l2
  have d2 := D4.new (H := upd H b [.string (mkB g.path), .slice ap al ac, .slice ep el ec, .slice kp kl kc]) (b := b2) (f := mkB h.path) (ap := ap2) (al := al2) (ac := ac2) (ep := ep2) (el := el2) (ec := ec2) (kp := kp2) (kl := kl2) (kc := kc2)
  have l0 := l1.trans l2
  revert l0 d1 d2
  generalize upd (upd H b [.string (mkB g.path), .slice ap al ac, .slice ep el ec, .slice kp kl kc]) b2 [.string (mkB h.path), .slice ap2 al2 ac2, .slice ep2 el2 ec2, .slice kp2 kl2 kc2] = H2
  intro d1 d2 l0
  have hK := hK _ l0
  have no : (g = h → False) → K false H2 := fun hn => by rw [decide_eq_false hn] at hK; exact hK
  refine ldS_i d1.1 (ldS_i d2.1 (bcdT (fun hp => no fun e => hp (by rw [e])) fun hp => ?_))
  refine ldL_i d1.2.1 (ldL_i d2.2.1 (centoref12_sameTexts.c (ha.le l0) (ha2.le l0) (by omega) (bcnd (fun hq => no fun e => hq (by rw [e])) fun hq => ?_)))
  refine ldL_i d1.2.2.1 (ldL_i d2.2.2.1 (bcd (fun hn => no fun e => hn (by rw [e2, e4, e])) fun hn => ldL_i d1.2.2.2 (ldL_i d2.2.2.2 (bcd (fun hn2 => no fun e => hn2 (by rw [e3, e5, e])) fun hn2 => ?_))))
  unfold centoref12_SameHunk.k1
  refine ⟨fun t Hx => ∃ i : Nat, t = (i : Nat) ∧ i ≤ el ∧ Hx = H2 ∧ g.edges.take i = h.edges.take i, fun t _ => ((el : Int) - t).toNat, ⟨0, rfl, Nat.zero_le _, rfl, rfl⟩, ?_⟩
  rintro t Hx ⟨i, rfl, gi, hx, ht⟩
  refine ldL_i (by rw [hx]; exact d1.2.2.1) (bcd (fun hlt => ldL_i (by rw [hx]; exact d1.2.2.1) ?_) fun hlt => ?_)
  · subst hx
    have hi : i < g.edges.length := by omega
    have hj : i < h.edges.length := by omega
    refine rsE (he.le l0) rfl hi (ldL_i d2.2.2.1 (rsE (he2.le l0) rfl hj (neE (fun hne => no fun e => take_ne hi hj hne (by rw [e])) fun heq => ?_)))
    exact chk (by omega) ⟨⟨i + 1, by omega, by omega, by trivial, take_next hi hj heq ht⟩, by first | omega | (dsimp only; omega)⟩
  subst hx
  rw [List.take_of_length_le (by omega), List.take_of_length_le (by omega)] at ht
  clear hlt gi i
  refine ⟨fun t Hy => ∃ i : Nat, t = (i : Nat) ∧ i ≤ kl ∧ Hy = Hx ∧ g.kills.take i = h.kills.take i, fun t _ => ((kl : Int) - t).toNat, ⟨0, rfl, Nat.zero_le _, rfl, rfl⟩, ?_⟩
  rintro t Hy ⟨i, rfl, gi, hx, hu⟩
  refine ldL_i (by rw [hx]; exact d1.2.2.2) (bcd (fun hlt => ldL_i (by rw [hx]; exact d1.2.2.2) ?_) fun hlt => ?_)
  · subst hx
    have hi : i < g.kills.length := by omega
    have hj : i < h.kills.length := by omega
    refine rsL (hk.le l0) rfl hi (ldL_i d2.2.2.2 (rsL (hk2.le l0) rfl hj (neL (fun hne => no fun e => take_ne hi hj hne (by rw [e])) fun heq => ?_)))
    exact chk (by omega) ⟨⟨i + 1, by omega, by omega, by trivial, take_next hi hj heq hu⟩, by first | omega | (dsimp only; omega)⟩
  subst hx
  rw [List.take_of_length_le (by omega), List.take_of_length_le (by omega)] at hu
  have : g = h := by cases g; cases h; simp_all
  rw [decide_eq_true this] at hK; exact hK
theorem centoref12_SameHunk.c {K : Bool → Hp → Prop} {g h : Hk} {ap ep kp ap2 ep2 kp2 : Option Addr} {al ac el ec kl kc al2 ac2 el2 ec2 kl2 kc2 : Nat} (ha : Sl sv H ap al ac g.adds) (he : Sn 4 edC H ep el ec g.edges) (hk : Sn 2 lidC H kp kl kc g.kills)
    (ha2 : Sl sv H ap2 al2 ac2 h.adds) (he2 : Sn 4 edC H ep2 el2 ec2 h.edges) (hk2 : Sn 2 lidC H kp2 kl2 kc2 h.kills) (hsm : HkSm g) (hK : ∀ H', Le H H' → K (decide (g = h)) H') :
    centoref12_SameHunk.C (mkB g.path) ap al ac ep el ec kp kl kc (mkB h.path) ap2 al2 ac2 ep2 el2 ec2 kp2 kl2 kc2 H K := centoref12_SameHunk.b ha he hk ha2 he2 hk2 hsm.adds hsm.edges hsm.kills hK
theorem centoref12_Same.c {K : Bool → Hp → Prop} {x y : Pt} {id id2 : Int} {dp mp qp hp dp2 mp2 qp2 hp2 : Option Addr} {dl dc ml mc ql qc hl hc dl2 dc2 ml2 mc2 ql2 qc2 hl2 hc2 : Nat} (h : PtS H id dp dl dc mp ml mc qp ql qc hp hl hc x) (h2 : PtS H id2 dp2 dl2 dc2 mp2 ml2 mc2 qp2 ql2 qc2 hp2 hl2 hc2 y) (hs : PtSm x) (hK : ∀ H', Le H H' → K (decide (x = y)) H') :
    centoref12_Same.C id dp dl dc mp ml mc qp ql qc hp hl hc id2 dp2 dl2 dc2 mp2 ml2 mc2 qp2 ql2 qc2 hp2 hl2 hc2 H K := by
  apply centoref12_Same.of
  intro b hb b2 hb2
  have l1 := Le.upd (c := [.int .u32 id, .slice dp dl dc, .slice mp ml mc, .slice qp ql qc, .slice hp hl hc]) hb
  have l2 := Le.upd (c := [.int .u32 id2, .slice dp2 dl2 dc2, .slice mp2 ml2 mc2, .slice qp2 ql2 qc2, .slice hp2 hl2 hc2]) hb2
  have d1 := (D5.new (H := H) (b := b) (id := id) (dp := dp) (dl := dl) (dc := dc) (mp := mp) (ml := ml) (mc := mc) (qp := qp) (ql := ql) (qc := qc) (hp := hp) (hl := hl) (hc := hc)).le l2
  have d2 := D5.new (H := upd H b [.int .u32 id, .slice dp dl dc, .slice mp ml mc, .slice qp ql qc, .slice hp hl hc]) (b := b2) (id := id2) (dp := dp2) (dl := dl2) (dc := dc2) (mp := mp2) (ml := ml2) (mc := mc2) (qp := qp2) (ql := ql2) (qc := qc2) (hp := hp2) (hl := hl2) (hc := hc2)
  have l0 := l1.trans l2
  revert l0 d1 d2
  generalize upd (upd H b [.int .u32 id, .slice dp dl dc, .slice mp ml mc, .slice qp ql qc, .slice hp hl hc]) b2 [.int .u32 id2, .slice dp2 dl2 dc2, .slice mp2 ml2 mc2, .slice qp2 ql2 qc2, .slice hp2 hl2 hc2] = H2
  intro d1 d2 l0
  obtain ⟨rfl, hd, hm, hq, hh⟩ := h
  obtain ⟨rfl, hd2, hm2, hq2, hh2⟩ := h2
  have e1 := hd.len
  have e2 := hm.len
  have e3 := hq.len
  have e4 := hh.1
  have e5 := hh2.1
  have s1 := hs.deps
  have s2 := hs.makes
  have s3 := hs.drops
  have s4 := hs.hunks
  have no : ∀ {Hx}, Le H2 Hx → (x = y → False) → K false Hx := fun lx hn => by have := hK _ (l0.trans lx); rw [decide_eq_false hn] at this; exact this
  have l2 := Le.refl H2
  refine ldI_i d1.1 (ldI_i d2.1 (bcd (fun j0 => no l2 fun e => j0 (by rw [e])) fun j0 => ?_))
  refine ldL_i d1.2.1 (ldL_i d2.2.1 (centoref12_SameIDs.c (hd.le l0) (hd2.le l0) (by omega) (bcnd (fun j1 => no l2 fun e => j1 (by rw [e])) fun j1 => ?_)))
  refine ldL_i d1.2.2.1 (ldL_i d2.2.2.1 (centoref12_sameTexts.c (hm.le l0) (hm2.le l0) (by omega) (bcnd (fun j2 => no l2 fun e => j2 (by rw [e])) fun j2 => ?_)))
  refine ldL_i d1.2.2.2.1 (ldL_i d2.2.2.2.1 (centoref12_sameTexts.c (hq.le l0) (hq2.le l0) (by omega) (bcnd (fun j3 => no l2 fun e => j3 (by rw [e])) fun j3 => ?_)))
  refine ldL_i d1.2.2.2.2 (ldL_i d2.2.2.2.2 (bcd (fun j4 => no l2 fun e => j4 (by rw [e4, e5, e])) fun j4 => ?_))
  unfold centoref12_Same.k1
  refine ⟨fun t Hx => ∃ i : Nat, t = (i : Nat) ∧ i ≤ hl ∧ Le H2 Hx ∧ x.hunks.take i = y.hunks.take i, fun t _ => ((hl : Int) - t).toNat, ⟨0, rfl, Nat.zero_le _, l2, rfl⟩, ?_⟩
  rintro t Hx ⟨i, rfl, gi, lx, ht⟩
  have dx := d1.le lx
  have dy := d2.le lx
  refine ldL_i dx.2.2.2.2 (bcd (fun hlt => ldL_i dx.2.2.2.2 ?_) fun hlt => ?_)
  · have hi : i < x.hunks.length := by omega
    have hj : i < y.hunks.length := by omega
    refine rsH2 (HkH_le hh l0) lx rfl hi fun ap al ac ep el ec kp kl kc t1 t2 t3 => ldL_i dy.2.2.2.2 (rsH2 (HkH_le hh2 l0) lx rfl hj fun ap2 al2 ac2 ep2 el2 ec2 kp2 kl2 kc2 u1 u2 u3 => ?_)
    refine centoref12_SameHunk.c (t1.le lx) (t2.le lx) (t3.le lx) (u1.le lx) (u2.le lx) (u3.le lx) (hs.each _ (List.getElem_mem hi)) fun H3 l3 => bcnd (fun hne => no (lx.trans l3) fun e => take_ne hi hj hne (by rw [e])) fun heq => ?_
    exact chk (by omega) ⟨⟨i + 1, by omega, by omega, lx.trans l3, take_next hi hj heq ht⟩, by first | omega | (dsimp only; omega)⟩
  · rw [List.take_of_length_le (by omega), List.take_of_length_le (by omega)] at ht
    have j0 := Classical.not_not.1 j0
    have : x = y := by cases x; cases y; simp_all
    have := hK _ (l0.trans lx)
    rw [decide_eq_true ‹x = y›] at this; exact this
end
section
variable {H : Hp} {id : Int} {dp mp qp hp : Option Addr} {dl dc ml mc ql qc hl hc : Nat} {x : Pt}
end
end Go.Proofs.YtbpbgkpkkklipaaGreat
namespace Go.Proofs.YtbpbgkpkkklipaaGreat
open Go.V
/-! ### The document: what a patch needs, its paths -/
theorem putL_len {α : Type} [DecidableEq α] {lt : α → α → Bool} {l : List α} {x : α} : (putL lt l x).length ≤ l.length + 1 := by
  unfold putL
  split
  · omega
  · have := congrArg List.length (List.takeWhile_append_dropWhile (p := fun y => lt y x) (l := l))
    rw [List.length_append] at this
    rw [List.length_append, List.length_cons]; omega
theorem uniqL_len {α : Type} [DecidableEq α] {lt : α → α → Bool} {zs : List α} : (uniqL lt zs).length ≤ zs.length := by
  have : ∀ (zs l : List α), (zs.foldl (putL lt) l).length ≤ l.length + zs.length := fun zs => by
    induction zs with
    | nil => intro l; simp
    | cons z zs ih =>
      intro l
      rw [List.foldl_cons, List.length_cons]
      have h1 := ih (putL lt l z)
      have h2 := putL_len (lt := lt) (l := l) (x := z)
      omega
  have h := this zs []
  unfold uniqL
  simpa using h
theorem filter_uniq {α : Type} [DecidableEq α] {lt : α → α → Bool} (hi : ∀ x, lt x x = false) (ht : ∀ x y z, lt x y = true → lt y z = true → lt x z = true) (ha : ∀ x y, lt x y = false → lt y x = false → x = y) (f : α → Bool) (zs : List α) : (uniqL lt zs).filter f = uniqL lt (zs.filter f) :=
  sorted_lt_mem hi ha ht ((uniqL_pw ht ha).filter f) (uniqL_pw ht ha) fun x => by rw [List.mem_filter, uniqL_mem, uniqL_mem, List.mem_filter]
theorem uniqL_snoc2 {α : Type} [DecidableEq α] {lt : α → α → Bool} {zs : List α} {x y : α} : uniqL lt (zs ++ [x, y]) = putL lt (putL lt (uniqL lt zs) x) y := by
  have : zs ++ [x, y] = (zs ++ [x]) ++ [y] := by simp
  rw [this, uniqL_snoc, uniqL_snoc]
section
variable {H : Hp} {id : Int} {dp mp qp hp : Option Addr} {dl dc ml mc ql qc hl hc : Nat} {x : Pt}
theorem centoref12_Needs.c {K : Option Addr → Nat → Nat → Hp → Prop} (h : PtS H id dp dl dc mp ml mc qp ql qc hp hl hc x) (hs : PtSm x) (hK : ∀ p l c H', Le H H' → Sl fU H' p l c (needsL x) → l ≤ 10000000 → K p l c H') : centoref12_Needs.C id dp dl dc mp ml mc qp ql qc hp hl hc H K := by
  apply centoref12_Needs.of
  intro b hb
  have l1 := Le.upd (c := [.int .u32 id, .slice dp dl dc, .slice mp ml mc, .slice qp ql qc, .slice hp hl hc]) hb
  have d := D5.new (H := H) (b := b) (id := id) (dp := dp) (dl := dl) (dc := dc) (mp := mp) (ml := ml) (mc := mc) (qp := qp) (ql := ql) (qc := qc) (hp := hp) (hl := hl) (hc := hc)
  revert l1 d
  generalize upd H b [.int .u32 id, .slice dp dl dc, .slice mp ml mc, .slice qp ql qc, .slice hp hl hc] = H1
  intro l1 d
  obtain ⟨rfl, hd, hm, hq, hh⟩ := h
  have eh := hh.1
  have hsh := hs.hunks
  have hh1 := HkH_le hh l1
  refine ⟨fun p l c t Hx => ∃ i : Nat, t = (i : Nat) ∧ i ≤ hl ∧ Le H1 Hx ∧ Sl fU Hx p l c (uniqL Sort.ltInt ((x.hunks.take i).flatMap hkNames)), fun _ _ _ t _ => ((hl : Int) - t).toNat, ⟨0, rfl, Nat.zero_le _, Le.refl _, Sl.nil⟩, ?_⟩
  rintro p l c t Hx ⟨i, rfl, gi, lx, hS⟩
  have dx := d.le lx
  refine ldL_i dx.2.2.2.2 (bcd (fun hlt => ldL_i dx.2.2.2.2 ?_) fun hlt => ?_)
  · have hi : i < x.hunks.length := by omega
    have hsm := hs.each _ (List.getElem_mem hi)
    have z1 := hsm.edges
    have z2 := hsm.kills
    have nb := ptNames_take hs i
    refine rsH2 hh1 lx rfl hi fun ap al ac ep el ec kp kl kc s1 s2 s3 => D4.mk fun q H2 hq dq l2 => ?_
    have y2 := s2.len
    have y3 := s3.len
    have lx2 := lx.trans l2
    refine ⟨fun p l c t Hy => ∃ k : Nat, t = (k : Nat) ∧ k ≤ el ∧ Le H2 Hy ∧ Sl fU Hy p l c (uniqL Sort.ltInt ((x.hunks.take i).flatMap hkNames ++ (x.hunks[i].edges.take k).flatMap edN)), fun _ _ _ t _ => ((el : Int) - t).toNat, ⟨0, rfl, Nat.zero_le _, Le.refl _, by simpa using hS.le l2⟩, ?_⟩
    rintro p2 n2 c2 t Hy ⟨k, rfl, gk, ly, hS2⟩
    have dy := dq.le ly
    refine ldL_i dy.2.2.1 (bcd (fun hlt2 => ldL_i dy.2.2.1 ?_) fun hlt2 => ?_)
    · have hk : k < x.hunks[i].edges.length := by omega
      obtain ⟨be, oe, rfl, hr⟩ := s2.at hk
      have r0 := hr k hk 0 _ rfl
      have r2 := hr k hk 2 _ rfl
      have L := lx2.trans ly
      have b1 := hS2.len
      have b2 := uniqL_len (lt := Sort.ltInt) (zs := (x.hunks.take i).flatMap hkNames ++ (x.hunks[i].edges.take k).flatMap edN)
      have b3 : ((x.hunks[i].edges.take k).flatMap edN).length ≤ (x.hunks[i].edges.take k).length * 2 := flatMap_lenLe fun e _ => by simp [edN]
      rw [List.length_take] at b3
      rw [List.length_append] at b2
      refine idxN k rfl (by omega) (nil (ldI_i (L.rd r0) (ldL_i dy.2.2.1 (idxN k rfl (by omega) (nil (ldI_i (L.rd r2) ?_))))))
      refine centoref12_Put.c hS2 (by omega) fun p3 n3 c3 H3 le3 hS3 => ⟨(L.trans le3).rd r2, (dy.le le3).2.2.1, centoref12_Put.c hS3 ?_ fun p4 n4 c4 H4 le4 hS4 => chk (by omega) ⟨⟨k + 1, by omega, by omega, ly.trans (le3.trans le4), ?_⟩, by first | omega | (dsimp only; omega)⟩⟩
      · have b4 := hS3.len
        have b5 := putL_len (lt := Sort.ltInt) (l := uniqL Sort.ltInt ((x.hunks.take i).flatMap hkNames ++ (x.hunks[i].edges.take k).flatMap edN)) (x := x.hunks[i].edges[k].a.p)
        omega
      · rw [flatMap_snoc hk, ← List.append_assoc]
        show Sl fU H4 p4 n4 c4 (uniqL Sort.ltInt (_ ++ [_, _]))
        rw [uniqL_snoc2]; exact hS4
    rw [show x.hunks[i].edges.take k = x.hunks[i].edges from List.take_of_length_le (by omega)] at hS2
    have e3 : ((x.hunks[i].edges).flatMap edN).length ≤ (x.hunks[i].edges).length * 2 := flatMap_lenLe fun e _ => by simp [edN]
    clear hlt2 gk dy
    refine ⟨fun p l c t Hz => ∃ k : Nat, t = (k : Nat) ∧ k ≤ kl ∧ Le Hy Hz ∧ Sl fU Hz p l c (uniqL Sort.ltInt ((x.hunks.take i).flatMap hkNames ++ (x.hunks[i].edges.flatMap edN ++ (x.hunks[i].kills.take k).map (·.p)))), fun _ _ _ t _ => ((kl : Int) - t).toNat, ⟨0, rfl, Nat.zero_le _, Le.refl _, by simpa using hS2⟩, ?_⟩
    rintro p3 n3 c3 t Hz ⟨k2, rfl, gk2, lz, hS3⟩
    have ly := ly.trans lz
    have dz := dq.le ly
    refine ldL_i dz.2.2.2 (bcd (fun hlt2 => ldL_i dz.2.2.2 ?_) fun hlt2 => ?_)
    · have hk : k2 < x.hunks[i].kills.length := by omega
      obtain ⟨be, oe, rfl, hr⟩ := s3.at hk
      have r0 := hr k2 hk 0 _ rfl
      have L := lx2.trans ly
      have b1 := hS3.len
      have b2 := uniqL_len (lt := Sort.ltInt) (zs := (x.hunks.take i).flatMap hkNames ++ (x.hunks[i].edges.flatMap edN ++ (x.hunks[i].kills.take k2).map (·.p)))
      rw [List.length_append, List.length_append, List.length_map, List.length_take] at b2
      refine idxN k2 rfl (by omega) (nil (ldI_i (L.rd r0) ?_))
      refine centoref12_Put.c hS3 (by omega) fun p4 n4 c4 H4 le4 hS4 => chk (by omega) ⟨⟨k2 + 1, by omega, by omega, lz.trans le4, ?_⟩, by first | omega | (dsimp only; omega)⟩
      rw [map_snoc hk, ← List.append_assoc, ← List.append_assoc, uniqL_snoc, List.append_assoc]; exact hS4
    · rw [show x.hunks[i].kills.take k2 = x.hunks[i].kills from List.take_of_length_le (by omega)] at hS3
      refine chk (by omega) ⟨⟨i + 1, by omega, by omega, lx2.trans ly, ?_⟩, by first | omega | (dsimp only; omega)⟩
      rw [flatMap_snoc hi]; exact hS3
  · rw [List.take_of_length_le (by omega)] at hS
    have nb := ptNames_take hs hl
    rw [List.take_of_length_le (by omega)] at nb
    have el := hS.len
    have eu := uniqL_len (lt := Sort.ltInt) (zs := x.hunks.flatMap hkNames)
    have eN : (uniqL Sort.ltInt (x.hunks.flatMap hkNames)).filter (fun y => !decide (y = x.id)) = needsL x := filter_uniq ltInt_irr ltInt_tr (fun _ _ => ltInt_anti) _ _
    revert hS el eu eN
    generalize uniqL Sort.ltInt (x.hunks.flatMap hkNames) = zs
    intro hS el eu eN
    refine ⟨fun p' l' c' t Hy => ∃ i : Nat, t = (i : Nat) ∧ i ≤ l ∧ Le Hx Hy ∧ Buf 1 Hx Hy p' l' c' (((zs.take i).filter fun y => !decide (y = x.id)).map fU), fun _ _ _ t _ => ((l : Int) - t).toNat, ⟨0, rfl, Nat.zero_le _, Le.refl _, Buf.none⟩, ?_⟩
    rintro p' l' c' t Hy ⟨k, rfl, gk, ly, hB⟩
    have dy := dx.le ly
    have hb1 := hB.1
    have hb2 : ((zs.take k).filter fun y => !decide (y = x.id)).length ≤ (zs.take k).length := List.length_filter_le _ _
    rw [List.length_take] at hb2
    simp only [List.length_map, Nat.mul_one] at hb1
    refine bcd (fun hlt2 => ?_) fun hlt2 => ?_
    · have hk : k < zs.length := by omega
      refine rsU (hS.le ly) rfl hk (ldI_i dy.1 (bcdU (fun hne => rsU (hS.le ly) rfl hk ?_) fun he => ?_))
      · refine hB.app1 ly (te := te_uint32) (new := [fU zs[k]]) rfl (by decide) rfl (by decide) rfl rfl (by simp [te_uint32]; omega) fun p2 c2 H2 hB2 l2 _ => chk (by omega) ⟨⟨k + 1, by omega, by omega, l2, ?_⟩, by first | omega | (dsimp only; omega)⟩
        rw [List.take_succ_eq_append_getElem hk, List.filter_append, List.filter_cons_of_pos (by simpa using hne), List.filter_nil, List.map_append]
        exact hB2
      · refine chk (by omega) ⟨⟨k + 1, by omega, by omega, ly, ?_⟩, by first | omega | (dsimp only; omega)⟩
        rw [List.take_succ_eq_append_getElem hk, List.filter_append, List.filter_cons_of_neg (by simpa using he), List.filter_nil, List.append_nil]
        exact hB
    · rw [List.take_of_length_le (by omega), eN] at hB
      rw [List.take_of_length_le (by omega), eN] at hb1
      have : (needsL x).length ≤ zs.length := by rw [← eN]; exact List.length_filter_le _ _
      exact hK p' l' c' Hy ((l1.trans lx).trans ly) hB.sl (by omega)
end
end Go.Proofs.YtbpbgkpkkklipaaGreat
namespace Go.Proofs.YtbpbgkpkkklipaaGreat
open Go.V
/-! ### The document: is it a hunk, a patch -/
theorem lines_one (s : BL) : decide ((lines s).length = 1) = (decide (s ≠ []) && decide (10 ∉ s.dropLast)) := by
  by_cases h : (10 : UInt8) ∈ s
  · obtain ⟨a, r, rfl, hn⟩ := List.eq_append_cons_of_mem h
    have e := linesA_line [] a r hn
    have : lines (a ++ 10 :: r) = (a ++ [10]) :: lines r := by simpa [lines] using e
    rw [this, List.length_cons]
    have hf := flat_lines [] r
    cases r with
    | nil =>
      have e2 : (a ++ [(10 : UInt8)]).dropLast = a := by simp
      rw [e2]
      simp [hn, lines, linesA]
    | cons y r =>
      have h1 : lines (y :: r) ≠ [] := fun e => by
        have : (linesA [] (y :: r)).flatten = [] := by
          have : linesA [] (y :: r) = [] := e
          rw [this]; rfl
        rw [hf] at this; simp at this
      have h2 := List.length_pos_iff.2 h1
      have h3 : (10 : UInt8) ∈ (a ++ 10 :: y :: r).dropLast := by simp
      rw [decide_eq_false (by omega), decide_eq_false (p := ¬ (10 : UInt8) ∈ (a ++ 10 :: y :: r).dropLast) (fun h => h h3)]; simp
  · have e := linesA_last [] s h
    have hl : lines s = if s = [] then [] else [s] := by simpa [lines] using e
    rw [hl]
    by_cases h0 : s = []
    · subst h0; simp
    · rw [if_neg h0]
      have h3 : (10 : UInt8) ∉ s.dropLast := fun hm => h (List.dropLast_subset _ hm)
      simp [h0, h3]
theorem lineB_one (s : BL) : lineB s = (decide ((lines s).length = 1) && decide (s.length ≤ 60)) := by
  rw [lines_one]
  unfold lineB
  cases decide (s ≠ []) <;> cases decide (s.length ≤ 60) <;> simp
theorem nil_lt {s : BL} (h : pathB s = true) : Sort.ltStr [] s = true := by
  cases s with
  | nil => simp [pathB] at h
  | cons y s => unfold Sort.ltStr; rw [decide_eq_true_eq]; exact List.nil_lt_cons _ _
def edgeB (id fr n : Int) (e : Ed) : Bool := namedB id fr n e.a && (namedB id fr n e.b && decide (¬ e.a = e.b))
def killB (id fr n : Int) (k : Lid) : Bool := namedB id fr n k && decide (¬ k.p = id)
theorem hunkB_eq (id fr : Int) (h : Hk) : hunkB id fr h = (decide (h.adds.length ≤ 40) && (decide (h.edges.length ≤ 80) && (decide (h.kills.length ≤ 40) && (h.adds.all lineB && ((h.edges.all (edgeB id fr h.adds.length)) && ((h.kills.all (killB id fr h.adds.length)) && (rsB edLt h.edges && rsB lidLt h.kills))))))) := rfl
theorem killB_eq {id fr n : Int} {k : Lid} (h : ¬ k.p = id) : killB id fr n k = namedB id 0 0 k := by
  unfold killB namedB
  rw [decide_eq_true h]; simp
section
variable {H : Hp} {p : Option Addr} {l cc : Nat}
theorem rsEa {xs : List Ed} (h : Sn 4 edC H p l cc xs) {k : Nat} {e : Int} (he : e = (k : Int)) (hk : k < xs.length) {F : Int → Int → Prop} (hF : F xs[k].a.p xs[k].a.n) : IDX e l fun k => NIL p fun b o => ldI .u32 (rd H b (o + (k * 4))) fun x => ldI .i64 (rd H b ((o + (k * 4)) + 1)) fun y => F x y := by
  have hl := h.len
  obtain ⟨b, o, rfl, hh⟩ := h.at hk
  exact idxN k he (by omega) (nil (ldI_i (hh k hk 0 _ rfl) (ldI_i (hh k hk 1 _ rfl) hF)))
theorem rsEb {xs : List Ed} (h : Sn 4 edC H p l cc xs) {k : Nat} {e : Int} (he : e = (k : Int)) (hk : k < xs.length) {F : Int → Int → Prop} (hF : F xs[k].b.p xs[k].b.n) : IDX e l fun k => NIL p fun b o => ldI .u32 (rd H b ((o + (k * 4)) + 2)) fun x => ldI .i64 (rd H b (((o + (k * 4)) + 2) + 1)) fun y => F x y := by
  have hl := h.len
  obtain ⟨b, o, rfl, hh⟩ := h.at hk
  exact idxN k he (by omega) (nil (ldI_i (hh k hk 2 _ rfl) (ldI_i (hh k hk 3 _ rfl) hF)))
theorem rsLp {xs : List Lid} (h : Sn 2 lidC H p l cc xs) {k : Nat} {e : Int} (he : e = (k : Int)) (hk : k < xs.length) {F : Int → Prop} (hF : F xs[k].p) : IDX e l fun k => NIL p fun b o => ldI .u32 (rd H b (o + (k * 2))) F := by
  have hl := h.len
  obtain ⟨b, o, rfl, hh⟩ := h.at hk
  exact idxN k he (by omega) (nil (ldI_i (hh k hk 0 _ rfl) hF))
theorem eqL {x y : Lid} {A B : Prop} (h : x = y → A) (h' : ¬ x = y → B) : bc (decide (x.p = y.p) && decide (x.n = y.n)) A B := by
  have e : (decide (x.p = y.p) && decide (x.n = y.n)) = decide (x = y) := by
    obtain ⟨a, b⟩ := x
    obtain ⟨c, d⟩ := y
    rw [Bool.eq_iff_iff]; simp
  rw [e]
  exact bcd h h'
theorem centoref12_hunk.c {K : Bool → Hp → Prop} {id fr : Int} {h : Hk} {ap ep kp : Option Addr} {al ac el ec kl kc : Nat} (ha : Sl sv H ap al ac h.adds) (he : Sn 4 edC H ep el ec h.edges) (hk : Sn 2 lidC H kp kl kc h.kills) (hsm : HkSm h) (hf : 0 ≤ fr ∧ fr ≤ 1000000000) (hK : ∀ H', Le H H' → K (pathB h.path && hunkB id fr h) H') : centoref12_hunk.C (mkB h.path) ap al ac ep el ec kp kl kc id fr H K := by
  apply centoref12_hunk.of
  intro b hb
  have l1 := Le.upd (c := [.string (mkB h.path), .slice ap al ac, .slice ep el ec, .slice kp kl kc]) hb
  have d := D4.new (H := H) (b := b) (f := mkB h.path) (ap := ap) (al := al) (ac := ac) (ep := ep) (el := el) (ec := ec) (kp := kp) (kl := kl) (kc := kc)
  revert l1 d
  generalize upd H b [.string (mkB h.path), .slice ap al ac, .slice ep el ec, .slice kp kl kc] = H1
  intro l1 d
  have ea := ha.len
  have ee := he.len
  have ek := hk.len
  have hsa := hsm.adds
  have hse := hsm.edges
  have hsk := hsm.kills
  have hpl := hsm.path
  have ha := ha.le l1
  have he := he.le l1
  have hk := hk.le l1
  have good : ∀ {Hx}, Le H1 Hx → (pathB h.path && hunkB id fr h) = true → K true Hx := fun lx e => by have := hK _ (l1.trans lx); rw [e] at this; exact this
  have bad : ∀ {Hx}, Le H1 Hx → (pathB h.path && hunkB id fr h) = false → K false Hx := fun lx e => by have := hK _ (l1.trans lx); rw [e] at this; exact this
  rw [hunkB_eq] at good bad
  clear hK
  refine ldS_i d.1 (centoref12_IsPath.c (by omega) (bcn (fun h0 => bad (Le.refl _) (by rw [h0]; rfl)) fun h0 => ?_))
  refine ldL_i d.2.1 (bcd (fun g => bad (Le.refl _) (by rw [decide_eq_false (by omega : ¬ h.adds.length ≤ 40)]; simp)) fun g1 => ldL_i d.2.2.1 (bcd (fun g => bad (Le.refl _) (by rw [decide_eq_false (by omega : ¬ h.edges.length ≤ 80)]; simp)) fun g2 => ldL_i d.2.2.2 (bcd (fun g => bad (Le.refl _) (by rw [decide_eq_false (by omega : ¬ h.kills.length ≤ 40)]; simp)) fun g3 => ?_)))
  unfold centoref12_hunk.k1
  refine ⟨fun t Hx => ∃ i : Nat, t = (i : Nat) ∧ i ≤ al ∧ Le H1 Hx ∧ (h.adds.take i).all lineB = true, fun t _ => ((al : Int) - t).toNat, ⟨0, rfl, Nat.zero_le _, Le.refl _, rfl⟩, ?_⟩
  rintro t Hx ⟨i, rfl, gi, lx, hp⟩
  have dx := d.le lx
  refine ldL_i dx.2.1 (bcd (fun hlt => ldL_i dx.2.1 ?_) fun hlt => ?_)
  · have hi : i < h.adds.length := by omega
    have ht := hsm.text _ (List.getElem_mem hi)
    have badL : ∀ {Hy}, Le H1 Hy → lineB h.adds[i] = false → K false Hy := fun ly e => bad ly (by rw [all_bad hi e]; simp)
    refine rsT (ha.le lx) rfl hi (centoref10_Lines.c (by rw [mkB_size]; omega) fun p2 l2 c2 H2 hx le2 _ _ => ?_)
    have e2 := hx.len
    have e2 : l2 = (lines h.adds[i]).length := e2
    refine bcd (fun hn => badL (lx.trans le2) ?_) fun hn => ?_
    · rw [lineB_one, decide_eq_false (by omega)]; rfl
    rw [mkB_size]
    refine bcd (fun hn2 => badL (lx.trans le2) ?_) fun hn2 => ?_
    · rw [lineB_one, decide_eq_false (by omega : ¬ h.adds[i].length ≤ 60)]; simp
    · exact chk (by omega) ⟨⟨i + 1, by omega, by omega, lx.trans le2, all_next hi hp (by rw [lineB_one, decide_eq_true (by omega), decide_eq_true (by omega)]; rfl)⟩, by first | omega | (dsimp only; omega)⟩
  have pa := all_end hp (by omega)
  clear hp hlt gi i
  refine ldL_i dx.2.1 (chk (by omega) ?_)
  have eal : (al : Int) = (h.adds.length : Nat) := by omega
  rw [eal]
  clear dx
  refine ⟨fun t Hy => ∃ i : Nat, t = (i : Nat) ∧ i ≤ el ∧ Le Hx Hy ∧ (h.edges.take i).all (edgeB id fr h.adds.length) = true ∧ rsB edLt (h.edges.take i) = true, fun t _ => ((el : Int) - t).toNat, ⟨0, rfl, Nat.zero_le _, Le.refl _, rfl, rfl⟩, ?_⟩
  rintro t Hy ⟨i, rfl, gi, ly, hp, hr⟩
  have ly := lx.trans ly
  have dy := d.le ly
  refine ldL_i dy.2.2.1 (bcd (fun hlt => ldL_i dy.2.2.1 ?_) fun hlt => ?_)
  · have hi : i < h.edges.length := by omega
    have badE : ∀ {Hz}, Le H1 Hz → edgeB id fr h.adds.length h.edges[i] = false → K false Hz := fun lz e => bad lz (by rw [all_bad hi e]; simp)
    refine rsE (he.le ly) rfl hi (DE.mk (e := h.edges[i]) fun q H2 hq dq l2 => ldI_i dq.1 (ldI_i dq.2.1 ?_))
    refine centoref12_named.c fun H3 l3 => bcn (fun hb => badE (ly.trans (l2.trans l3)) (by unfold edgeB; rw [hb]; rfl)) fun hb1 => ?_
    have dq := dq.le l3
    refine ldI_i dq.2.2.1 (ldI_i dq.2.2.2 ?_)
    refine centoref12_named.c fun H4 l4 => bcn (fun hb => badE (ly.trans (l2.trans (l3.trans l4))) (by unfold edgeB; rw [hb1, hb]; rfl)) fun hb2 => ?_
    have dq := dq.le l4
    refine ldI_i dq.1 (ldI_i dq.2.1 (ldI_i dq.2.2.1 (ldI_i dq.2.2.2 (eqL (fun e => badE (ly.trans (l2.trans (l3.trans l4))) (by unfold edgeB; rw [hb1, hb2]; simp [e])) fun hne => ?_))))
    have hE : edgeB id fr h.adds.length h.edges[i] = true := by unfold edgeB; rw [hb1, hb2]; simp [hne]
    have lz : Le Hy H4 := l2.trans (l3.trans l4)
    unfold centoref12_hunk.k2
    have next : ∀ {H5}, Le H4 H5 → rsB edLt (h.edges.take (i + 1)) = true → CHK .i64 (((i : Nat) : Int) + (1 : Int)) fun x => (∃ j : Nat, x = (j : Nat) ∧ j ≤ el ∧ Le Hx H5 ∧ (h.edges.take j).all (edgeB id fr h.adds.length) = true ∧ rsB edLt (h.edges.take j) = true) ∧ ((el : Int) - x).toNat < ((el : Int) - ((i : Nat) : Int)).toNat := fun l5 hr' =>
      chk (by omega) ⟨⟨i + 1, by omega, by omega, (‹Le Hx Hy›).trans (lz.trans l5), all_next hi hp hE, hr'⟩, by omega⟩
    refine bcd (fun hpos => ?_) fun hpos => next (Le.refl _) (rsB_one (by rw [List.length_take]; omega))
    have hi1 : i - 1 < h.edges.length := by omega
    have dy4 := dy.le lz
    have badR : ∀ {Hz}, Le H1 Hz → edLt h.edges[i - 1] h.edges[i] = false → K false Hz := fun lz e => bad lz (by rw [rsB_bad hi (by omega) e]; simp)
    have goodR : edLt h.edges[i - 1] h.edges[i] = true → rsB edLt (h.edges.take (i + 1)) = true := fun e => rsB_next hi (by omega) hr e
    unfold edLt at badR goodR
    refine ldL_i dy4.2.2.1 (chk (by omega) (rsEa ((he.le ly).le lz) (k := i - 1) (by omega) hi1 (ldI_i dq.1 (ldI_i dq.2.1 ?_))))
    refine centoref12_Less.c (x := h.edges[i - 1].a) (y := h.edges[i].a) fun H5 l5 => bc_i (fun hl => next l5 (goodR (by rw [hl]; rfl))) fun hl => ?_
    have dq5 := dq.le l5
    have dy5 := dy4.le l5
    refine ldL_i dy5.2.2.1 (chk (by omega) (rsEa (((he.le ly).le lz).le l5) (k := i - 1) (by omega) hi1 (ldI_i dq5.1 (ldI_i dq5.2.1 (eqL (x := h.edges[i - 1].a) (y := h.edges[i].a) (fun heq => ?_) fun hne2 => badR (ly.trans (lz.trans l5)) (by rw [hl, decide_eq_false hne2]; rfl))))))
    refine ldL_i dy5.2.2.1 (chk (by omega) (rsEb (((he.le ly).le lz).le l5) (k := i - 1) (by omega) hi1 (ldI_i dq5.2.2.1 (ldI_i dq5.2.2.2 ?_))))
    refine centoref12_Less.c (x := h.edges[i - 1].b) (y := h.edges[i].b) fun H6 l6 => bcn (fun hl2 => badR (ly.trans (lz.trans (l5.trans l6))) (by rw [hl, hl2, Bool.and_false]; rfl)) fun hl2 => ?_
    exact next (l5.trans l6) (goodR (by rw [hl, hl2, decide_eq_true heq]; rfl))
  have pe := all_end hp (by omega)
  have re : rsB edLt h.edges = true := by rwa [List.take_of_length_le (by omega)] at hr
  clear hp hr hlt gi i dy
  refine ⟨fun t Hz => ∃ i : Nat, t = (i : Nat) ∧ i ≤ kl ∧ Le Hy Hz ∧ (h.kills.take i).all (killB id fr h.adds.length) = true ∧ rsB lidLt (h.kills.take i) = true, fun t _ => ((kl : Int) - t).toNat, ⟨0, rfl, Nat.zero_le _, Le.refl _, rfl, rfl⟩, ?_⟩
  rintro t Hz ⟨i, rfl, gi, lz, hp, hr⟩
  have lz0 := lz
  have lz := ly.trans lz
  have dz := d.le lz
  refine ldL_i dz.2.2.2 (bcd (fun hlt => ldL_i dz.2.2.2 ?_) fun hlt => ?_)
  · have hi : i < h.kills.length := by omega
    have badK : ∀ {Hw}, Le H1 Hw → killB id fr h.adds.length h.kills[i] = false → K false Hw := fun lw e => bad lw (by rw [all_bad hi e]; simp)
    refine rsLp (hk.le lz) rfl hi (bcd (fun e => badK lz (by unfold killB; simp [e])) fun hne => ldL_i dz.2.2.2 (rsL (hk.le lz) rfl hi ?_))
    have e0 : (0 : Int) = 0 + 0 := rfl
    show centoref12_named.C h.kills[i].p h.kills[i].n id (0 : Int) ((0 : Int) + 0) Hz _
    refine centoref12_named.c fun H2 l2 => bcn (fun hb => badK (lz.trans l2) (by rw [killB_eq hne]; exact hb)) fun hb => ?_
    have hE : killB id fr h.adds.length h.kills[i] = true := by rw [killB_eq hne]; exact hb
    have next : ∀ {H5}, Le H2 H5 → rsB lidLt (h.kills.take (i + 1)) = true → CHK .i64 (((i : Nat) : Int) + (1 : Int)) fun x => (∃ j : Nat, x = (j : Nat) ∧ j ≤ kl ∧ Le Hy H5 ∧ (h.kills.take j).all (killB id fr h.adds.length) = true ∧ rsB lidLt (h.kills.take j) = true) ∧ ((kl : Int) - x).toNat < ((kl : Int) - ((i : Nat) : Int)).toNat := fun l5 hr' =>
      chk (by omega) ⟨⟨i + 1, by omega, by omega, lz0.trans (l2.trans l5), all_next hi hp hE, hr'⟩, by omega⟩
    refine bcd (fun hpos => ?_) fun hpos => next (Le.refl _) (rsB_one (by rw [List.length_take]; omega))
    have hi1 : i - 1 < h.kills.length := by omega
    have dz2 := dz.le l2
    refine ldL_i dz2.2.2.2 (chk (by omega) (rsL ((hk.le lz).le l2) (k := i - 1) (by omega) hi1 (ldL_i dz2.2.2.2 (rsL ((hk.le lz).le l2) rfl hi ?_))))
    refine centoref12_Less.c (x := h.kills[i - 1]) (y := h.kills[i]) fun H3 l3 => bcn (fun hl => bad (lz.trans (l2.trans l3)) (by rw [rsB_bad hi (by omega) hl]; simp)) fun hl => next l3 (rsB_next hi (by omega) hr hl)
  · have pk := all_end hp (by omega)
    have rk : rsB lidLt h.kills = true := by rwa [List.take_of_length_le (by omega)] at hr
    refine good lz ?_
    rw [h0, pa, pe, pk, re, rk, decide_eq_true (by omega), decide_eq_true (by omega), decide_eq_true (by omega)]; rfl
end
end Go.Proofs.YtbpbgkpkkklipaaGreat
namespace Go.Proofs.YtbpbgkpkkklipaaGreat
open Go.V
section
variable {H : Hp} {id : Int} {dp mp qp hp : Option Addr} {dl dc ml mc ql qc hl hc : Nat} {x : Pt}
theorem isB_mk {x : Pt} (h0 : ¬ x.id = 0) (h1 : x.hunks.length ≤ 6) (h2 : x.makes.length ≤ 6) (h3 : x.drops.length ≤ 6) (h4 : x.deps.length ≤ 60) (h5 : risB x.deps = true) (h6 : x.id ∉ x.deps) (h7 : pathsR x.makes = true) (h8 : pathsR x.drops = true)
    (h9 : ∀ s ∈ x.makes, s ∉ x.drops) (h10 : hunksB x.id 0 [] x.hunks = true) (h11 : ∀ n ∈ needsL x, n ∈ x.deps) : isB x = true := by
  unfold risB at h5
  unfold pathsR at h7 h8
  simp only [Bool.and_eq_true, Bool.not_eq_true', decide_eq_false_iff_not] at h5 h7 h8
  unfold isB pathsB depsB
  simp only [Bool.and_eq_true, decide_eq_true_eq, Bool.not_eq_true', decide_eq_false_iff_not]
  refine ⟨h0, h1, ⟨h2, h7.1, h7.2⟩, ⟨h3, h8.1, h8.2⟩, ⟨h4, h5.1, h5.2, h6, ?_⟩, ?_, h10⟩
  · rw [List.all_eq_true]; intro n hn; exact decide_eq_true (h11 n hn)
  · rw [List.any_eq_false]; intro s hs; simpa using h9 s hs
theorem isB_get {x : Pt} (h : isB x = true) : ¬ x.id = 0 ∧ x.hunks.length ≤ 6 ∧ x.makes.length ≤ 6 ∧ x.drops.length ≤ 6 ∧ x.deps.length ≤ 60 ∧ risB x.deps = true ∧ x.id ∉ x.deps ∧ pathsR x.makes = true ∧ pathsR x.drops = true ∧ (∀ s ∈ x.makes, s ∉ x.drops) ∧ hunksB x.id 0 [] x.hunks = true ∧ ∀ n ∈ needsL x, n ∈ x.deps := by
  unfold isB pathsB depsB at h
  simp only [Bool.and_eq_true, decide_eq_true_eq, Bool.not_eq_true', decide_eq_false_iff_not] at h
  obtain ⟨h0, h1, ⟨h2, h7, h7'⟩, ⟨h3, h8, h8'⟩, ⟨h4, h5, h5', h6, h11⟩, h9, h10⟩ := h
  unfold risB pathsR
  simp only [Bool.and_eq_true, Bool.not_eq_true', decide_eq_false_iff_not]
  refine ⟨h0, h1, h2, h3, h4, ⟨h5, h5'⟩, h6, ⟨h7, h7'⟩, ⟨h8, h8'⟩, fun s hs => ?_, h10, fun n hn => ?_⟩
  · rw [List.any_eq_false] at h9; simpa using h9 s hs
  · rw [List.all_eq_true] at h11; exact of_decide_eq_true (h11 n hn)
theorem centoref12_Is.c {K : Bool → Hp → Prop} (h : PtS H id dp dl dc mp ml mc qp ql qc hp hl hc x) (hs : PtSm x) (hK : ∀ H', Le H H' → K (isB x) H') : centoref12_Is.C id dp dl dc mp ml mc qp ql qc hp hl hc H K := by
  apply centoref12_Is.of
  intro b hb
  have l1 := Le.upd (c := [.int .u32 id, .slice dp dl dc, .slice mp ml mc, .slice qp ql qc, .slice hp hl hc]) hb
  have d := D5.new (H := H) (b := b) (id := id) (dp := dp) (dl := dl) (dc := dc) (mp := mp) (ml := ml) (mc := mc) (qp := qp) (ql := ql) (qc := qc) (hp := hp) (hl := hl) (hc := hc)
  revert l1 d
  generalize upd H b [.int .u32 id, .slice dp dl dc, .slice mp ml mc, .slice qp ql qc, .slice hp hl hc] = H1
  intro l1 d
  have hS := h.up l1
  obtain ⟨rfl, hd, hm, hq, hh⟩ := h
  have ed := hd.len
  have em := hm.len
  have eq := hq.len
  have eh := hh.1
  have sd := hs.deps
  have sm := hs.makes
  have sq := hs.drops
  have sh := hs.hunks
  have hd := hd.le l1
  have hm := hm.le l1
  have hq := hq.le l1
  have hh := HkH_le hh l1
  have good : ∀ {Hx}, Le H1 Hx → isB x = true → K true Hx := fun lx e => by have := hK _ (l1.trans lx); rw [e] at this; exact this
  have bad : ∀ {Hx}, Le H1 Hx → (isB x = true → False) → K false Hx := fun lx e => by have := hK _ (l1.trans lx); rw [notB e] at this; exact this
  have l0 := Le.refl H1
  clear hK
  refine ldI_i d.1 (bcd (fun g => bad l0 fun e => (isB_get e).1 g) fun g0 => ?_)
  refine ldL_i d.2.1 (centoref12_Rising.c hd (by omega) (bcn (fun g => bad l0 fun e => by rw [(isB_get e).2.2.2.2.2.1] at g; cases g) fun g1 => ?_))
  refine ldL_i d.2.1 (ldI_i d.1 (centoref12_Has.c hd (by omega) (bcd (fun g => bad l0 fun e => (isB_get e).2.2.2.2.2.2.1 g) fun g2 => ?_)))
  refine ldL_i d.2.2.1 (centoref12_paths.c hm (by omega) (fun s h => Nat.le_trans (hs.mtext s h) (by decide)) (bcn (fun g => bad l0 fun e => by rw [(isB_get e).2.2.2.2.2.2.2.1] at g; cases g) fun g3 => ?_))
  refine ldL_i d.2.2.2.1 (centoref12_paths.c hq (by omega) (fun s h => Nat.le_trans (hs.dtext s h) (by decide)) (bcn (fun g => bad l0 fun e => by rw [(isB_get e).2.2.2.2.2.2.2.2.1] at g; cases g) fun g4 => ?_))
  refine ldL_i d.2.2.2.2 (bcd (fun g => bad l0 fun e => by have := (isB_get e).2.1; omega) fun g5 => ?_)
  refine ldL_i d.2.1 (bcd (fun g => bad l0 fun e => by have := (isB_get e).2.2.2.2.1; omega) fun g6 => ?_)
  refine ldL_i d.2.2.1 (bcd (fun g => bad l0 fun e => by have := (isB_get e).2.2.1; omega) fun g7 => ?_)
  refine ldL_i d.2.2.2.1 (bcd (fun g => bad l0 fun e => by have := (isB_get e).2.2.2.1; omega) fun g8 => ?_)
  unfold centoref12_Is.k1
  refine ⟨fun t Hx => ∃ i : Nat, t = (i : Nat) ∧ i ≤ ml ∧ Le H1 Hx ∧ ∀ s ∈ x.makes.take i, s ∉ x.drops, fun t _ => ((ml : Int) - t).toNat, ⟨0, rfl, Nat.zero_le _, l0, by simp⟩, ?_⟩
  rintro t Hx ⟨i, rfl, gi, lx, hp⟩
  have dx := d.le lx
  refine ldL_i dx.2.2.1 (bcd (fun hlt => ldL_i dx.2.2.2.1 (ldL_i dx.2.2.1 ?_)) fun hlt => ?_)
  · have hi : i < x.makes.length := by omega
    refine rsT (hm.le lx) rfl hi (centoref12_In.c (hq.le lx) (by omega) (bcd (fun g => bad lx fun e => (isB_get e).2.2.2.2.2.2.2.2.2.1 _ (List.getElem_mem hi) g) fun g => ?_))
    refine chk (by omega) ⟨⟨i + 1, by omega, by omega, lx, fun s hs => ?_⟩, by first | omega | (dsimp only; omega)⟩
    rw [List.take_succ_eq_append_getElem hi, List.mem_append] at hs
    rcases hs with hs | hs
    · exact hp s hs
    · simp at hs; subst hs; exact g
  rw [List.take_of_length_le (by omega)] at hp
  have g9 := hp
  clear hp hlt gi i dx
  refine ⟨fun n t Hy => ∃ (i : Nat) (s : BL), t = (i : Nat) ∧ i ≤ hl ∧ Le H1 Hy ∧ (0 ≤ n ∧ n ≤ i * 1000) ∧ (i = 0 → s = []) ∧ (∀ h : 0 < i, ∃ h2 : i - 1 < x.hunks.length, s = x.hunks[i - 1].path) ∧ hunksB x.id 0 [] x.hunks = hunksB x.id n s (x.hunks.drop i), fun _ t _ => ((hl : Int) - t).toNat, ⟨0, [], rfl, Nat.zero_le _, lx, ⟨by decide, by decide⟩, fun _ => rfl, fun h => absurd h (Nat.lt_irrefl _), rfl⟩, ?_⟩
  clear lx
  rintro n t Hx ⟨i, s, rfl, gi, lx, hn, hs0, hs1, he⟩
  have dx := d.le lx
  refine ldL_i dx.2.2.2.2 (bcd (fun hlt => ?_) fun hlt => ?_)
  · have hi : i < x.hunks.length := by omega
    have hsm := hs.each _ (List.getElem_mem hi)
    have hsa := hsm.adds
    rw [List.drop_eq_getElem_cons hi, hunksB] at he
    have badH : ∀ {Hy}, Le H1 Hy → (pathB x.hunks[i].path && (Sort.ltStr s x.hunks[i].path && (hunkB x.id n x.hunks[i] && hunksB x.id (n + x.hunks[i].adds.length) x.hunks[i].path (x.hunks.drop (i + 1))))) = false → K false Hy := fun ly e => bad ly fun h => by
      have := (isB_get h).2.2.2.2.2.2.2.2.2.2.1
      rw [he, e] at this; cases this
    have main : Sort.ltStr s x.hunks[i].path = true ∨ i = 0 → IDX ((i : Nat) : Int) hl fun k126 => NIL hp fun bq127 oq128 => ldS (rd Hx bq127 (oq128 + (k126 * 4))) fun x129 => ldL (rd Hx bq127 ((oq128 + (k126 * 4)) + 1)) fun xp130 xl131 xc132 => ldL (rd Hx bq127 (((oq128 + (k126 * 4)) + 1) + 1)) fun xp133 xl134 xc135 => ldL (rd Hx bq127 ((((oq128 + (k126 * 4)) + 1) + 1) + 1)) fun xp136 xl137 xc138 => ldI .u32 (rd Hx b 0) fun x139 => centoref12_hunk.C x129 xp130 xl131 xc132 xp133 xl134 xc135 xp136 xl137 xc138 x139 n Hx fun r140 Hx141 => bc ((!r140)) (K false Hx141) (centoref12_Is.k2 Hx (fun n t Hy => ∃ (i : Nat) (s : BL), t = (i : Nat) ∧ i ≤ hl ∧ Le H1 Hy ∧ (0 ≤ n ∧ n ≤ i * 1000) ∧ (i = 0 → s = []) ∧ (∀ h : 0 < i, ∃ h2 : i - 1 < x.hunks.length, s = x.hunks[i - 1].path) ∧ hunksB x.id 0 [] x.hunks = hunksB x.id n s (x.hunks.drop i)) b ((i : Nat) : Int) (fun _ t _ => ((hl : Int) - t).toNat) n Hx141) := fun hls => by
      refine rsH2 hh lx rfl hi fun ap al ac ep el ec kp kl kc s1 s2 s3 => ldI_i dx.1 ?_
      refine centoref12_hunk.c (s1.le lx) (s2.le lx) (s3.le lx) hsm (by omega) fun H2 l2 => bcn (fun g => badH (lx.trans l2) ?_) fun g => ?_
      · rw [Bool.and_eq_false_iff] at g
        rcases g with g | g <;> rw [g] <;> simp
      · rw [Bool.and_eq_true] at g
        have hls : Sort.ltStr s x.hunks[i].path = true := hls.elim id fun h0 => by rw [hs0 h0]; exact nil_lt g.1
        rw [g.1, g.2, hls] at he
        simp only [Bool.true_and] at he
        unfold centoref12_Is.k2
        have d2 := dx.le l2
        refine ldL_i d2.2.2.2.2 (rsHa hh (lx.trans l2) rfl hi fun ap2 al2 ac2 s4 => ?_)
        have e4 := s4.len
        refine chk (by omega) (chk (by omega) ⟨⟨i + 1, x.hunks[i].path, by omega, by omega, lx.trans l2, by omega, fun h => absurd h (by omega), fun _ => ⟨by omega, rfl⟩, ?_⟩, by first | omega | (dsimp only; omega)⟩)
        rw [he, e4]
    refine bcd (fun hpos => ?_) fun hpos => ?_
    · obtain ⟨h2, es⟩ := hs1 (by omega)
      refine ldL_i dx.2.2.2.2 (rsHp hh lx rfl hi (ldL_i dx.2.2.2.2 (chk (by omega) (rsHp hh lx (k := i - 1) (by omega) h2 ?_))))
      rw [le_str]
      refine bcn (fun hle => badH lx ?_) fun hgt => ?_
      · rw [es, hle]; simp
      · refine ldL_i dx.2.2.2.2 (main (.inl (by rw [es]; exact hgt)))
    · refine ldL_i dx.2.2.2.2 (main (.inr (by omega)))
  · rw [List.drop_eq_nil_of_le (by omega), hunksB] at he
    have g10 := he
    refine ldI_i dx.1 (ldL_i dx.2.1 (ldL_i dx.2.2.1 (ldL_i dx.2.2.2.1 (ldL_i dx.2.2.2.2 ?_))))
    refine centoref12_Needs.c (hS.up lx) hs fun p l c H2 l2 hN hln => ?_
    have en := hN.len
    refine ⟨fun t Hy => ∃ i : Nat, t = (i : Nat) ∧ i ≤ l ∧ Le H2 Hy ∧ ∀ n ∈ (needsL x).take i, n ∈ x.deps, fun t _ => ((l : Int) - t).toNat, ⟨0, rfl, Nat.zero_le _, Le.refl _, by simp⟩, ?_⟩
    rintro t Hy ⟨j, rfl, gj, ly, hp⟩
    have lx2 := (lx.trans l2).trans ly
    have dy := d.le lx2
    refine bcd (fun hlt => ldL_i dy.2.1 ?_) fun hlt => ?_
    · have hj : j < (needsL x).length := by omega
      refine rsU (hN.le ly) rfl hj (centoref12_Has.c (hd.le lx2) (by omega) (bcnd (fun g => bad lx2 fun e => g ((isB_get e).2.2.2.2.2.2.2.2.2.2.2 _ (List.getElem_mem hj))) fun g => ?_))
      refine chk (by omega) ⟨⟨j + 1, by omega, by omega, ly, fun n hn => ?_⟩, by first | omega | (dsimp only; omega)⟩
      rw [List.take_succ_eq_append_getElem hj, List.mem_append] at hn
      rcases hn with hn | hn
      · exact hp n hn
      · simp at hn; subst hn; exact g
    · rw [List.take_of_length_le (by omega)] at hp
      exact good lx2 (isB_mk g0 (by omega) (by omega) (by omega) (by omega) g1 g2 g3 g4 g9 g10 hp)
end
end Go.Proofs.YtbpbgkpkkklipaaGreat
namespace Go.Proofs.YtbpbgkpkkklipaaGreat
open Go.V
/-! ### Stores -/
theorem HkH.lr {H H' : Hp} {p : Option Addr} {l c : Nat} {hs : List Hk} (h : HkH H p l c hs) (hl : Lr H H') : HkH H' p l c hs := by
  refine ⟨h.1, h.2.1, h.2.2.imp id fun ⟨b, o, e, hh⟩ => ⟨b, o, e, fun i hi => ?_⟩⟩
  obtain ⟨ap, al, ac, ep, el, ec, kp, kl, kc, h1, h2, h3, h4, h5, h6, h7⟩ := hh i hi
  exact ⟨ap, al, ac, ep, el, ec, kp, kl, kc, hl _ _ _ h1, hl _ _ _ h2, hl _ _ _ h3, hl _ _ _ h4, h5.lr hl, h6.lr hl, h7.lr hl⟩
theorem PtS.lr {H H' : Hp} {id : Int} {dp mp qp hp : Option Addr} {dl dc ml mc ql qc hl hc : Nat} {x : Pt} (h : PtS H id dp dl dc mp ml mc qp ql qc hp hl hc x) (hle : Lr H H') : PtS H' id dp dl dc mp ml mc qp ql qc hp hl hc x := ⟨h.1, h.2.1.lr hle, h.2.2.1.lr hle, h.2.2.2.1.lr hle, h.2.2.2.2.lr hle⟩
/-- A patch as a value of a map. -/
def PtV (H : Hp) (v : Value) (x : Pt) : Prop := ∃ dp dl dc mp ml mc qp ql qc hp hl hc, v = .agg ⟨[.int .u32 x.id, .slice dp dl dc, .slice mp ml mc, .slice qp ql qc, .slice hp hl hc]⟩ ∧ PtS H x.id dp dl dc mp ml mc qp ql qc hp hl hc x ∧ PtSm x
theorem PtV.lr {H H' : Hp} {v : Value} {x : Pt} (h : PtV H v x) (hl : Lr H H') : PtV H' v x := by
  obtain ⟨dp, dl, dc, mp, ml, mc, qp, ql, qc, hp, hl', hc, e, h1, h2⟩ := h
  exact ⟨dp, dl, dc, mp, ml, mc, qp, ql, qc, hp, hl', hc, e, h1.lr hl, h2⟩
def Ents (H : Hp) : List (Int × Value) → List Pt → Prop
  | [], [] => True
  | e :: l, x :: S => e.1 = x.id ∧ PtV H e.2 x ∧ Ents H l S
  | _, _ => False
def sGet (S : List Pt) (id : Int) : Option Pt := S.find? fun x => decide (x.id = id)
theorem Ents.lr {H H' : Hp} (hl : Lr H H') : ∀ {l : List (Int × Value)} {S : List Pt}, Ents H l S → Ents H' l S
  | [], [], _ => trivial
  | [], _ :: _, h => h.elim
  | _ :: _, [], h => h.elim
  | _ :: _, _ :: _, h => ⟨h.1, h.2.1.lr hl, Ents.lr hl h.2.2⟩
theorem Ents.keys {H : Hp} : ∀ {l : List (Int × Value)} {S : List Pt}, Ents H l S → l.map (·.1) = S.map (·.id)
  | [], [], _ => rfl
  | [], _ :: _, h => h.elim
  | _ :: _, [], h => h.elim
  | _ :: _, _ :: _, h => by rw [List.map_cons, List.map_cons, h.1, Ents.keys h.2.2]
theorem Ents.len {H : Hp} {l : List (Int × Value)} {S : List Pt} (h : Ents H l S) : l.length = S.length := by
  have := congrArg List.length h.keys
  simpa using this
theorem Ents.snoc {H : Hp} {v : Value} {x : Pt} (hx : PtV H v x) : ∀ {l : List (Int × Value)} {S : List Pt}, Ents H l S → Ents H (l ++ [(x.id, v)]) (S ++ [x])
  | [], [], _ => ⟨rfl, hx, trivial⟩
  | [], _ :: _, h => h.elim
  | _ :: _, [], h => h.elim
  | _ :: _, _ :: _, h => ⟨h.1, h.2.1, Ents.snoc hx h.2.2⟩
theorem sGet_nil {id : Int} : sGet [] id = none := rfl
theorem sGet_cons {x : Pt} {S : List Pt} {id : Int} : sGet (x :: S) id = if x.id = id then some x else sGet S id := by
  unfold sGet
  rw [List.find?_cons]
  by_cases h : x.id = id <;> simp [h]
theorem sGet_some {S : List Pt} {id : Int} {x : Pt} (h : sGet S id = some x) : x ∈ S ∧ x.id = id := by
  unfold sGet at h
  exact ⟨List.mem_of_find?_eq_some h, by simpa using List.find?_some h⟩
theorem sGet_none {S : List Pt} {id : Int} : sGet S id = none ↔ ∀ x ∈ S, x.id ≠ id := by
  unfold sGet
  rw [List.find?_eq_none]
  simp
theorem sGet_is {S : List Pt} {id : Int} : (sGet S id).isSome = decide (id ∈ S.map (·.id)) := by
  cases h : sGet S id with
  | none =>
    rw [sGet_none] at h
    symm
    simpa using h
  | some x =>
    obtain ⟨h1, h2⟩ := sGet_some h
    symm
    simp only [Option.isSome_some, decide_eq_true_eq, List.mem_map]
    exact ⟨x, h1, h2⟩
theorem sGet_of {S : List Pt} (hn : (S.map (·.id)).Nodup) {x : Pt} (hx : x ∈ S) : sGet S x.id = some x := by
  induction S with
  | nil => cases hx
  | cons y S ih =>
    rw [List.map_cons, List.nodup_cons] at hn
    rw [sGet_cons]
    rcases List.mem_cons.1 hx with rfl | hx
    · simp
    · rw [if_neg (fun e => hn.1 (by rw [e]; exact List.mem_map.2 ⟨x, hx, rfl⟩)), ih hn.2 hx]
theorem sGet_snoc {S : List Pt} {x : Pt} {id : Int} : sGet (S ++ [x]) id = match sGet S id with | some y => some y | none => if x.id = id then some x else none := by
  induction S with
  | nil => rw [List.nil_append, sGet_cons]; rfl
  | cons y S ih =>
    rw [List.cons_append, sGet_cons, sGet_cons, ih]
    by_cases h : y.id = id <;> simp [h]
theorem Ents.get {H : Hp} {id : Int} : ∀ {l : List (Int × Value)} {S : List Pt}, Ents H l S → (mget l id = none ∧ sGet S id = none) ∨ ∃ v x, mget l id = some v ∧ sGet S id = some x ∧ x.id = id ∧ PtV H v x
  | [], [], _ => .inl ⟨rfl, rfl⟩
  | [], _ :: _, h => h.elim
  | _ :: _, [], h => h.elim
  | e :: l, x :: S, h => by
    rw [mget_cons, sGet_cons, h.1]
    by_cases hid : x.id = id
    · rw [if_pos hid, if_pos hid]
      exact .inr ⟨_, _, rfl, rfl, hid, h.2.1⟩
    · rw [if_neg hid, if_neg hid]
      exact Ents.get h.2.2

/-- A store: map m, its patches in the order in which they came. -/
def StAt (H : Hp) (s : Option Addr) (m : Nat) (S : List Pt) : Prop := ∃ b l, s = some ⟨b, 0, none⟩ ∧ rd H b 0 = some (.map (some m)) ∧ MapAt fU H m l ∧ Ents H l S
theorem StAt.le {H H' : Hp} {s : Option Addr} {m : Nat} {S : List Pt} (h : StAt H s m S) (hl : Le H H') : StAt H' s m S := by
  obtain ⟨b, l, h1, h2, h3, h4⟩ := h
  exact ⟨b, l, h1, hl.rd h2, h3.le hl, h4.lr hl.lr⟩
theorem StAt.lr {H H' : Hp} {s : Option Addr} {m : Nat} {S : List Pt} (h : StAt H s m S) (hm : Mod [m] H H') : Lr H H' := by
  obtain ⟨b, l, h1, h2, h3, h4⟩ := h
  exact h3.lr hm
theorem StAt.nodup {H : Hp} {s : Option Addr} {m : Nat} {S : List Pt} (h : StAt H s m S) : (S.map (·.id)).Nodup := by
  obtain ⟨b, l, h1, h2, h3, h4⟩ := h
  rw [← h4.keys]; exact h3.nodup
theorem StAt.no {H : Hp} {s : Option Addr} {m : Nat} {S : List Pt} (h : StAt H s m S) (o : Nat) : rd H m o = none := by
  obtain ⟨b, l, h1, h2, h3, h4⟩ := h
  exact h3.no o
theorem StAt.some {H : Hp} {s : Option Addr} {m : Nat} {S : List Pt} (h : StAt H s m S) : H m ≠ none := by
  obtain ⟨b, l, h1, h2, h3, h4⟩ := h
  exact h3.some
/-- Another map is written. -/
theorem StAt.mod {H H' : Hp} {s : Option Addr} {m n : Nat} {S : List Pt} (h : StAt H s m S) (hl : Lr H H') (hm : Mod [n] H H') (hne : m ≠ n) : StAt H' s m S := by
  obtain ⟨b, l, h1, h2, h3, h4⟩ := h
  exact ⟨b, l, h1, hl _ _ _ h2, h3.mod hm (by simpa using hne), h4.lr hl⟩

theorem uPt : prog.underlying ty_map_uint32_api_Patch = some (.map ty_uint32 ty_api_Patch) := by kernel_rfl
theorem kU : KyOk prog ty_uint32 fU := KyOk.int (by kernel_rfl)
theorem zPt (w : World) : (zeroValue ty_api_Patch).run prog w = .ok (.agg ⟨[.int .u32 0, .slice none 0 0, .slice none 0 0, .slice none 0 0, .slice none 0 0]⟩) w := zero_st te_api_Patch.ok rfl w

section
variable {H H0 : Hp} {m : Nat} {l : List (Int × Value)} {S : List Pt} {k : Int}
theorem lkpP {F : Int → Option Addr → Nat → Nat → Option Addr → Nat → Nat → Option Addr → Nat → Nat → Option Addr → Nat → Nat → Bool → Prop} (hM : MapAt fU H m l) (hE : Ents H0 l S)
    (h0 : sGet S k = none → F 0 none 0 0 none 0 0 none 0 0 none 0 0 false) (h1 : ∀ x dp dl dc mp ml mc qp ql qc hp hl hc, sGet S k = some x → PtS H0 x.id dp dl dc mp ml mc qp ql qc hp hl hc x → PtSm x → F x.id dp dl dc mp ml mc qp ql qc hp hl hc true) :
    LKP prog ty_map_uint32_api_Patch (some m) (.int .u32 k) true H fun v => tupV v fun vs => d2 vs fun wv0 wv1 => aggV wv0 fun cs => d5 cs fun wwv00 wwv01 wwv02 wwv03 wwv04 => liftI .u32 wwv00 fun x50 => liftL wwv01 fun xp51 xl52 xc53 => liftL wwv02 fun xp54 xl55 xc56 => liftL wwv03 fun xp57 xl58 xc59 => liftL wwv04 fun xp60 xl61 xc62 => liftB wv1 fun x63 => F x50 xp51 xl52 xc53 xp54 xl55 xc56 xp57 xl58 xc59 xp60 xl61 xc62 x63 := by
  refine lkp_ok (enc := fU) (a := k) kU uPt zPt hM ?_
  rcases hE.get (id := k) with ⟨e1, e2⟩ | ⟨v, x, e1, e2, e3, dp, dl, dc, mp, ml, mc, qp, ql, qc, hp, hl, hc, rfl, h2, h3⟩
  · rw [e1]; exact h0 e2
  · rw [e1]; exact h1 x _ _ _ _ _ _ _ _ _ _ _ _ e2 h2 h3
theorem lkpQ {F : Int → Option Addr → Nat → Nat → Option Addr → Nat → Nat → Option Addr → Nat → Nat → Option Addr → Nat → Nat → Prop} (hM : MapAt fU H m l) (hE : Ents H0 l S)
    (h1 : ∀ dp dl dc mp ml mc qp ql qc hp hl hc, PtS H0 ((sGet S k).getD xz).id dp dl dc mp ml mc qp ql qc hp hl hc ((sGet S k).getD xz) → PtSm ((sGet S k).getD xz) → F ((sGet S k).getD xz).id dp dl dc mp ml mc qp ql qc hp hl hc) :
    LKP prog ty_map_uint32_api_Patch (some m) (.int .u32 k) false H fun v => aggV v fun cs => d5 cs fun wwv00 wwv01 wwv02 wwv03 wwv04 => liftI .u32 wwv00 fun x50 => liftL wwv01 fun xp51 xl52 xc53 => liftL wwv02 fun xp54 xl55 xc56 => liftL wwv03 fun xp57 xl58 xc59 => liftL wwv04 fun xp60 xl61 xc62 => F x50 xp51 xl52 xc53 xp54 xl55 xc56 xp57 xl58 xc59 xp60 xl61 xc62 := by
  refine lkp_v (enc := fU) (a := k) kU uPt zPt hM ?_
  rcases hE.get (id := k) with ⟨e1, e2⟩ | ⟨v, x, e1, e2, e3, dp, dl, dc, mp, ml, mc, qp, ql, qc, hp, hl, hc, rfl, h2, h3⟩
  · rw [e1]
    rw [e2] at h1
    exact h1 _ _ _ _ _ _ _ _ _ _ _ _ xz_pt xz_sm
  · rw [e1]
    rw [e2] at h1
    exact h1 _ _ _ _ _ _ _ _ _ _ _ _ h2 h3
end

theorem store_New.c {H : Hp} {K : Option Addr → Hp → Prop} (hK : ∀ m b H', H m = none → H b = none → Le H H' → StAt H' (some ⟨b, 0, none⟩) m [] → K (some ⟨b, 0, none⟩) H') : store_New.C H K := by
  apply store_New.of
  intro m hm b hb
  have l1 := Le.upd (c := mapV [] 0) hm
  have l2 := Le.upd (c := [.map (some m)]) hb
  refine hK m b _ hm (none_of_le l1 hb) (l1.trans l2) ⟨b, [], rfl, by rw [rd_upd_self]; rfl, mapAt_new.le l2, trivial⟩

section
variable {H : Hp} {s : Option Addr} {m : Nat} {S : List Pt} {p : Option Addr} {l cc : Nat} {ids : List Int}
theorem store_Store_has_1.c {cap : Nat} {k : Int} {K : Bool → Hp → Prop} (hc : rd H cap 0 = some (.pointer s)) (hS : StAt H s m S) (hK : ∀ H', Le H H' → K (!(sGet S k).isSome) H') : store_Store_has_1.C k cap H K := by
  apply store_Store_has_1.of
  obtain ⟨b, l, rfl, h2, h3, h4⟩ := hS
  refine ldP_i hc (nil ⟨_, h2, lkpP h3 h4 (fun e => ?_) fun x dp dl dc mp ml mc qp ql qc hp hl hc e _ _ => ?_⟩)
  · refine D5.mk fun q H' _ _ l1 => ?_
    have := hK H' l1
    rw [e] at this; exact this
  · refine D5.mk fun q H' _ _ l1 => ?_
    have := hK H' l1
    rw [e] at this; exact this
theorem store_Store_has.c {K : Bool → Hp → Prop} (hS : StAt H s m S) (h : Sl fU H p l cc ids) (hl : l ≤ 1000000000) (hK : ∀ H', Le H H' → K (ids.all fun k => (sGet S k).isSome) H') : store_Store_has.C s p l cc H K := by
  apply store_Store_has.of
  intro b hb
  have l1 := Le.upd (c := [.pointer s]) hb
  have hr : rd (upd H b [.pointer s]) b 0 = some (.pointer s) := by rw [rd_upd_self]; rfl
  refine slices_ContainsFunc_uint32_uint32.c (q := fun k => !(sGet S k).isSome) (h.le l1) hl (fun Hx k _ G lx hk => ?_) fun H2 l2 => ?_
  · show store_Store_has_1.C k b Hx G
    exact store_Store_has_1.c (lx.rd hr) (hS.le (l1.trans lx)) hk
  · have e : (!ids.any fun k => !(sGet S k).isSome) = ids.all fun k => (sGet S k).isSome := by rw [Bool.eq_iff_iff]; simp [Option.isSome_iff_ne_none]
    rw [e]; exact hK _ (l1.trans l2)

/-! ### A patch more -/
def sAdd (S : List Pt) (x : Pt) : Int × List Pt :=
  if isB x = false then (10, S) else
  match sGet S x.id with
  | some y => (if y = x then 0 else 16, S)
  | none => if (x.deps.all fun d => (sGet S d).isSome) = false then (17, S) else if 60 ≤ S.length then (11, S) else (0, S ++ [x])
theorem store_Store_Add.c {id : Int} {dp mp qp hp : Option Addr} {dl dc ml mc ql qc hl hc : Nat} {x : Pt} {K : Int → Hp → Prop} (hS : StAt H s m S) (h : PtS H id dp dl dc mp ml mc qp ql qc hp hl hc x) (hs : PtSm x)
    (hK : ∀ H', StAt H' s m (sAdd S x).2 → Mod [m] H H' → K (sAdd S x).1 H') : store_Store_Add.C s id dp dl dc mp ml mc qp ql qc hp hl hc H K := by
  apply store_Store_Add.of
  intro b hb
  have l1 := Le.upd (c := [.int .u32 id, .slice dp dl dc, .slice mp ml mc, .slice qp ql qc, .slice hp hl hc]) hb
  have d := D5.new (H := H) (b := b) (id := id) (dp := dp) (dl := dl) (dc := dc) (mp := mp) (ml := ml) (mc := mc) (qp := qp) (ql := ql) (qc := qc) (hp := hp) (hl := hl) (hc := hc)
  revert l1 d
  generalize upd H b [.int .u32 id, .slice dp dl dc, .slice mp ml mc, .slice qp ql qc, .slice hp hl hc] = H1
  intro l1 d
  have hid := h.1
  subst hid
  have hsd := hs.deps
  have hdl := h.2.1.len
  refine D5.get d (patch_Is.c (h.up l1) hs fun H2 l2 => bcn (fun hr => ?_) fun hr => ?_)
  · have e : sAdd S x = (10, S) := by unfold sAdd; rw [if_pos hr]
    rw [e] at hK
    exact hK _ (hS.le (l1.trans l2)) (l1.trans l2).mod
  have lk2 : ∀ H3, Le H2 H3 → sGet S x.id = none → store_Store_Add.k2 K b s H3 := fun H3 l3 hg => by
    have l13 := (l1.trans l2).trans l3
    have d3 := (d.le l2).le l3
    unfold store_Store_Add.k2
    refine ldL_i d3.2.1 (store_Store_has.c (hS.le l13) (h.2.1.le l13) (by omega) fun H4 l4 => bcn (fun hh => ?_) fun hh => ?_)
    · have e : sAdd S x = (17, S) := by unfold sAdd; rw [hr, if_neg (by decide), hg]; simp only; rw [if_pos hh]
      rw [e] at hK
      exact hK _ (hS.le (l13.trans l4)) (l13.trans l4).mod
    have l14 := l13.trans l4
    have hS4 := hS.le l14
    obtain ⟨q, l, rfl, h2, h3, h4⟩ := hS4
    refine nil ⟨_, h2, mlen uPt h3 (bcd (fun hle => ?_) fun hle => ?_)⟩
    · have hle' : 60 ≤ S.length := by have := h4.len; omega
      have e : sAdd S x = (11, S) := by unfold sAdd; rw [hr, if_neg (by decide), hg]; simp only; rw [hh, if_neg (by decide), if_pos hle']
      rw [e] at hK
      exact hK _ (hS.le l14) l14.mod
    have hle' : ¬ 60 ≤ S.length := by have := h4.len; omega
    have e : sAdd S x = (0, S ++ [x]) := by unfold sAdd; rw [hr, if_neg (by decide), hg]; simp only; rw [hh, if_neg (by decide), if_neg hle']
    rw [e] at hK
    have d4 := d3.le l4
    refine nil ⟨_, h2, ldI_i d4.1 (D5.get d4 (patch_Copy.c (h.up l14) hs fun p1 c1 p2 c2 p3 c3 p4 c4 zs H5 l5 ho => ?_))⟩
    refine ⟨(d4.le l5).1, l5.rd h2, mup (enc := fU) (a := x.id) kU uPt (h3.le l5) fun H6 hM6 hm6 _ => ?_⟩
    have hno : mget l x.id = none := by
      rcases h4.get (id := x.id) with ⟨e1, _⟩ | ⟨v, y, _, e2, _⟩
      · exact e1
      · rw [hg] at e2; cases e2
    unfold mset at hM6
    rw [hno] at hM6
    have lr6 := (h3.le l5).lr hm6
    exact hK H6 ⟨q, _, rfl, lr6 _ _ _ (l5.rd h2), hM6, ((h4.lr l5.lr).lr lr6).snoc ⟨p1, _, c1, p2, _, c2, p3, _, c3, p4, _, c4, rfl, ho.pt.lr lr6, hs⟩⟩ (Mod.trans (l14.trans l5).mod hm6)
  have lk1 : ∀ H3 o y dp' dl' dc' mp' ml' mc' qp' ql' qc' hp' hl' hc', Le H2 H3 → sGet S x.id = some y → D5 H3 o y.id dp' dl' dc' mp' ml' mc' qp' ql' qc' hp' hl' hc' → PtS H3 y.id dp' dl' dc' mp' ml' mc' qp' ql' qc' hp' hl' hc' y → PtSm y → store_Store_Add.k1 K b s o true H3 := fun H3 o y dp' dl' dc' mp' ml' mc' qp' ql' qc' hp' hl' hc' l3 hg ho hy hsy => by
    have l13 := (l1.trans l2).trans l3
    have d3 := (d.le l2).le l3
    unfold store_Store_Add.k1
    refine bcT (D5.get ho (D5.get d3 (patch_Same.c hy (h.up l13) hsy fun H4 l4 => bcd (fun hh => ?_) fun hh => ?_)))
    · have e : sAdd S x = (0, S) := by unfold sAdd; rw [hr, if_neg (by decide), hg]; simp only; rw [if_pos hh]
      rw [e] at hK
      exact hK _ (hS.le (l13.trans l4)) (l13.trans l4).mod
    · have e : sAdd S x = (16, S) := by unfold sAdd; rw [hr, if_neg (by decide), hg]; simp only; rw [if_neg hh]
      rw [e] at hK
      exact hK _ (hS.le (l13.trans l4)) (l13.trans l4).mod
  have hS2 := hS.le (l1.trans l2)
  obtain ⟨q, l, hsq, h2, h3, h4⟩ := hS2
  rw [hsq]
  rw [hsq] at lk1 lk2
  refine nil ⟨_, h2, ldI_i (d.le l2).1 ⟨?_, ?_⟩⟩
  · refine lkpP h3 h4 (fun e => ?_) fun y dp' dl' dc' mp' ml' mc' qp' ql' qc' hp' hl' hc' e hy hsy => ?_
    · refine D5.mk fun o H3 _ _ l3 => ?_
      unfold store_Store_Add.k1
      exact bcF (lk2 H3 l3 e)
    · refine D5.mk fun o H3 _ ho l3 => lk1 H3 o y _ _ _ _ _ _ _ _ _ _ _ _ l3 e ho (hy.up l3) hsy
  · refine fun o ho => ?_
    have l3 := Le.upd (c := [.int .u32 (0 : Int), .slice none 0 0, .slice none 0 0, .slice none 0 0, .slice none 0 0]) ho
    have e3 := D5.new (H := H2) (b := o) (id := (0 : Int)) (dp := none) (dl := 0) (dc := 0) (mp := none) (ml := 0) (mc := 0) (qp := none) (ql := 0) (qc := 0) (hp := none) (hl := 0) (hc := 0)
    revert l3 e3
    generalize upd H2 o [.int .u32 (0 : Int), .slice none 0 0, .slice none 0 0, .slice none 0 0, .slice none 0 0] = H3
    intro l3 e3
    refine ⟨((d.le l2).le l3).1, l3.rd h2, lkpP (h3.le l3) h4 (fun e => ?_) fun y dp' dl' dc' mp' ml' mc' qp' ql' qc' hp' hl' hc' e hy hsy => ?_⟩
    · refine put5 e3 fun H4 ho4 m4 _ => ?_
      have l4 : Le H2 H4 := m4.le l3 fun b hb => by simp at hb; subst hb; exact ho
      unfold store_Store_Add.k1
      exact bcF (lk2 H4 l4 e)
    · refine put5 e3 fun H4 ho4 m4 _ => ?_
      have l4 : Le H2 H4 := m4.le l3 fun b hb => by simp at hb; subst hb; exact ho
      exact lk1 H4 o y _ _ _ _ _ _ _ _ _ _ _ _ l4 e ho4 (hy.up l4) hsy
end
end Go.Proofs.YtbpbgkpkkklipaaGreat
namespace Go.Proofs.YtbpbgkpkkklipaaGreat
open Go.V
/-! ### Numbers, rising -/
def setL (ids : List Int) : List Int := uniqL Sort.ltInt ids
theorem setL_mem {ids : List Int} {k : Int} : k ∈ setL ids ↔ k ∈ ids := uniqL_mem
theorem setL_pw (ids : List Int) : (setL ids).Pairwise fun a b => Sort.ltInt a b = true := uniqL_pw ltInt_tr fun _ _ => ltInt_anti
theorem setL_eq {xs ids : List Int} (h : xs.Pairwise fun a b => Sort.ltInt a b = true) (hm : ∀ k, k ∈ xs ↔ k ∈ ids) : xs = setL ids :=
  sorted_lt_mem ltInt_irr (fun _ _ => ltInt_anti) ltInt_tr h (setL_pw ids) fun k => by rw [hm, setL_mem]
theorem Own.modN {A H H' : Hp} {id : Int} {dp mp qp hp : Option Addr} {dl dc ml mc ql qc hl hc b : Nat} {x : Pt} {zs : List (BL × HD)} (h : Own A H id dp dl dc mp ml mc qp ql qc hp hl hc x zs) (hm : Mod [b] H H') (hb : A b ≠ none) : Own A H' id dp dl dc mp ml mc qp ql qc hp hl hc x zs := by
  obtain ⟨h1, h2, h3, h4, ⟨h5, h6, h7⟩, h8⟩ := h
  have key : ∀ {s : Nat} {p : Option Addr} {l c : Nat} {cells : List Value}, Buf s A H p l c cells → Buf s A H' p l c cells := fun hB => hB.mod hm fun b' o e hb' => by
    simp at hb'; subst hb'
    exact hb (hB.fr b' o e)
  exact ⟨h1, key h2, key h3, key h4, ⟨h5, key h6, fun j j1 j2 => ⟨(h7 j j1 j2).1, key (h7 j j1 j2).2.1, key (h7 j j1 j2).2.2.1, key (h7 j j1 j2).2.2.2⟩⟩, h8⟩
section
variable {H : Hp} {s : Option Addr} {m : Nat} {S : List Pt} {p : Option Addr} {l cc : Nat} {ids : List Int}
theorem store_set.c {K : Option Addr → Nat → Nat → Hp → Prop} (h : Sl fU H p l cc ids) (hl : l ≤ 1000000) (hK : ∀ p' l' c' H', Le H H' → Sl fU H' p' l' c' (setL ids) → New H p' → PtOk p' → K p' l' c' H') : store_set.C p l cc H K := by
  apply store_set.of
  refine slices_Clone_uint32_uint32.c h hl fun p1 c1 H1 l1 hB => ?_
  refine slices_Sort_uint32_uint32.c hB.sl (by omega) fun H2 ys s2 hp hw m2 => ?_
  refine slices_Compact_uint32_uint32.c s2 (by omega) fun l3 H3 s3 m3 => ?_
  have hn : ∀ b ∈ blkL p1, H b = none := fun b hb => hB.fr b 0 (blkL_mem hB.zero hb)
  have l3' : Le H H3 := m3.le (m2.le l1 hn) hn
  rw [dd_uniq ltInt_irr ltInt_tr (fun _ _ => ltInt_anti) hp hw] at s3
  exact hK p1 l3 c1 H3 l3' s3 hB.fr hB.pt

/-- The keys of a map of patches. -/
def keysV (q : Nat) : Value := .func (.func maps_Keys_map_uint32_api_Patch_uint32_api_Patch_1.num) ⟨[]⟩ ⟨[.pointer (some ⟨q, 0, none⟩)]⟩
theorem slices_AppendSeq_uint32_uint32.k {q m : Nat} {l : List (Int × Value)} {K : Option Addr → Nat → Nat → Hp → Prop} (hq : rd H q 0 = some (.map (some m))) (hM : MapAt fU H m l) (hl : l.length ≤ 1000000)
    (hK : ∀ p c (ys : List Int) H', Le H H' → Buf 1 H H' p ys.length c (ys.map fU) → ys.Perm (l.map (·.1)) → K p ys.length c H') : slices_AppendSeq_uint32_uint32.C none 0 0 (keysV q) H K := by
  apply slices_AppendSeq_uint32_uint32.of
  intro v hv
  have l1 := Le.upd (c := [.slice none 0 0]) hv
  have hA0 : Acc 1 H (upd H v [.slice none 0 0]) v [v] [] := Acc.start hv l1 (by rw [rd_upd_self]; rfl)
  revert l1 hA0
  generalize upd H v [.slice none 0 0] = H1
  intro l1 hA0
  show maps_Keys_map_uint32_api_Patch_uint32_api_Patch_1.I q H1 _ _
  apply maps_Keys_map_uint32_api_Patch_uint32_api_Patch_1.of
  refine ⟨_, l1.rd hq, rng uPt (hM.le l1) fun r H2 hr l2 hI hN => ?_⟩
  have hvr : v ≠ r := fun e => by subst e; exact hA0.there v (by simp) hr
  have hvm : v ≠ m := fun e => by subst e; exact hM.some hv
  refine ⟨fun Hx => ∃ (rest : List (Int × Value)) (ys : List Int) (T : List Nat), IterAt fU Hx r m rest ∧ Acc 1 H Hx v T (ys.map fU) ∧ r ∉ T ∧ m ∉ T ∧ (ys ++ rest.map (·.1)).Perm (l.map (·.1)) ∧ itN Hx r + rest.length = l.length + 1,
    fun Hx => l.length + 1 - itN Hx r, ⟨l, [], [v], hI, hA0.le l2, by simpa using Ne.symm hvr, by simpa using Ne.symm hvm, by simp, by omega⟩, ?_⟩
  rintro Hx ⟨rest, ys, T, hI, hA, hrT, hmT, hp, hn⟩
  refine nxt hI (fun e => ?_) fun i hi rs H3 hI3 hL3 m3 e3 hn3 => ?_
  · subst e
    simp only [List.map_nil, List.append_nil] at hp
    refine hA.end fun p l' c hB => ?_
    have e : l' = ys.length := by have := hB.1; simpa using this
    subst e
    exact hK p c ys Hx hA.1 hB hp
  · refine ent hL3 ?_
    have hT : ∀ x ∈ T, x ∉ [r] := fun x hx hxr => by simp at hxr; subst hxr; exact hrT hx
    have hA3 : Acc 1 H H3 v T (ys.map fU) := by
      obtain ⟨h1, h2, p, l', c, rfl, h3, h4, h5⟩ := hA
      have hr0 : H r = none := none_of_le l1 hr
      exact ⟨m3.le h1 (by simpa using hr0), h2, p, l', c, rfl, m3.rd (hT v (by simp)) h3, h4.mod m3 fun b o e => hT b (by simp [blkL, e]), h5⟩
    have hlen : ys.length ≤ l.length := by
      have := hp.length_eq
      simp at this
      omega
    refine hA3.push (te := te_uint32) rfl (by decide) rfl (by decide) rfl rfl (by simp [te_uint32]; omega) fun T' H4 hA4 m4 hT' => ?_
    refine alOn ⟨⟨rest.eraseIdx i, ys ++ [rest[i].1], T', hI3.mod m4 hrT hmT, by simpa using hA4, ?_, ?_, ?_, ?_⟩, ?_⟩
    · intro hr'
      rcases hT' r hr' with h | h
      · exact hrT h
      · obtain ⟨es, c, since, seen, last, l', _, _, h3, _⟩ := hI3
        rw [h] at h3; cases h3
    · intro hr'
      rcases hT' m hr' with h | h
      · exact hmT h
      · obtain ⟨es, c, since, seen, last, l', h3, _⟩ := hI3
        rw [h] at h3; cases h3
    · refine List.Perm.trans ?_ hp
      rw [List.append_assoc]
      refine List.Perm.append_left _ ?_
      have e : rest = rest.take i ++ rest[i] :: rest.drop (i + 1) := by rw [← List.drop_eq_getElem_cons hi, List.take_append_drop]
      rw [List.eraseIdx_eq_take_drop_succ]
      conv => rhs; rw [e]
      simp only [List.map_append, List.map_cons, List.singleton_append]
      exact List.perm_middle.symm
    · have e4 : itN H4 r = itN H3 r := by
        obtain ⟨es, c, since, seen, last, l', _, _, h3, _⟩ := hI3
        unfold itN
        rw [h3, m4 r hrT _ h3]
      rw [e4, hn3, List.length_eraseIdx, if_pos hi]
      omega
    · have e4 : itN H4 r = itN H3 r := by
        obtain ⟨es, c, since, seen, last, l', _, _, h3, _⟩ := hI3
        unfold itN
        rw [h3, m4 r hrT _ h3]
      dsimp only
      rw [e4, hn3]
      omega
theorem slices_Sorted_uint32.k {q m : Nat} {l : List (Int × Value)} {K : Option Addr → Nat → Nat → Hp → Prop} (hq : rd H q 0 = some (.map (some m))) (hM : MapAt fU H m l) (hl : l.length ≤ 1000000)
    (hK : ∀ p l' c H', Le H H' → Sl fU H' p l' c (setL (l.map (·.1))) → New H p → PtOk p → K p l' c H') : slices_Sorted_uint32.C (keysV q) H K := by
  apply slices_Sorted_uint32.of
  apply slices_Collect_uint32.of
  refine slices_AppendSeq_uint32_uint32.k hq hM hl fun p c ys H1 l1 hB hp => ?_
  have hlen : ys.length ≤ 1000000 := by have := hp.length_eq; simp at this; omega
  refine slices_Sort_uint32_uint32.c hB.sl (by omega) fun H2 zs s2 hp2 hw m2 => ?_
  have hn : ∀ b ∈ blkL p, H b = none := fun b hb => hB.fr b 0 (blkL_mem hB.zero hb)
  have e : zs = setL (l.map (·.1)) := by
    have hnd : zs.Nodup := (hp2.trans hp).nodup_iff.2 hM.nodup
    refine setL_eq ?_ fun k => (hp2.trans hp).mem_iff
    refine List.Pairwise.imp₂ (fun a b h1 h2 => ?_) hw hnd
    cases h : Sort.ltInt a b with
    | true => rfl
    | false => exact absurd (ltInt_anti h h1) h2
  rw [e] at s2
  exact hK p _ c H2 (m2.le l1 hn) s2 hB.fr hB.pt
def sIds (S : List Pt) : List Int := setL (S.map (·.id))
theorem store_Store_IDs.c {K : Option Addr → Nat → Nat → Hp → Prop} (hS : StAt H s m S) (hl : S.length ≤ 1000000) (hK : ∀ p l' c H', Le H H' → Sl fU H' p l' c (sIds S) → New H p → PtOk p → K p l' c H') : store_Store_IDs.C s H K := by
  apply store_Store_IDs.of
  obtain ⟨b, l, rfl, h2, h3, h4⟩ := hS
  refine nil ⟨_, h2, ?_⟩
  apply maps_Keys_map_uint32_api_Patch_uint32_api_Patch.of
  intro q hq
  have l1 := Le.upd (c := [.map (some m)]) hq
  refine slices_Sorted_uint32.k (q := q) (by rw [rd_upd_self]; rfl) (h3.le l1) (by rw [h4.len]; omega) fun p l' c H2 l2 s2 hp ho => ?_
  have e : setL (l.map (·.1)) = sIds S := by unfold sIds; rw [h4.keys]
  rw [e] at s2
  exact hK p l' c H2 (l1.trans l2) s2 (hp.le l1) ho

/-! ### One patch -/
theorem store_Store_Get.c {k : Int} {K : Int → Option Addr → Nat → Nat → Option Addr → Nat → Nat → Option Addr → Nat → Nat → Option Addr → Nat → Nat → Bool → Hp → Prop} (hS : StAt H s m S)
    (h0 : sGet S k = none → ∀ H', Le H H' → K 0 none 0 0 none 0 0 none 0 0 none 0 0 false H')
    (h1 : ∀ x p1 c1 p2 c2 p3 c3 p4 c4 H' l1 l2 l3 l4 zs A, sGet S k = some x → Le H H' → Le H A → Own A H' x.id p1 l1 c1 p2 l2 c2 p3 l3 c3 p4 l4 c4 x zs → PtSm x → K x.id p1 l1 c1 p2 l2 c2 p3 l3 c3 p4 l4 c4 true H') : store_Store_Get.C s k H K := by
  apply store_Store_Get.of
  intro b hb
  have l1 := Le.upd (c := [.int .u32 (0 : Int), .slice none 0 0, .slice none 0 0, .slice none 0 0, .slice none 0 0]) hb
  have d := D5.new (H := H) (b := b) (id := (0 : Int)) (dp := none) (dl := 0) (dc := 0) (mp := none) (ml := 0) (mc := 0) (qp := none) (ql := 0) (qc := 0) (hp := none) (hl := 0) (hc := 0)
  revert l1 d
  generalize upd H b [.int .u32 (0 : Int), .slice none 0 0, .slice none 0 0, .slice none 0 0, .slice none 0 0] = H1
  intro l1 d
  have hS1 := hS.le l1
  obtain ⟨q, l, hsq, h2, h3, h4⟩ := hS1
  subst hsq
  refine nil ⟨_, h2, lkpP h3 h4 (fun e => ?_) fun x dp dl dc mp ml mc qp ql qc hp hl hc e hx hsx => ?_⟩
  · refine D5.mk fun o H2 _ _ l2 => bcT (put5 (d.le l2) fun H3 d3 m3 _ => ?_)
    have l3 : Le H H3 := m3.le (l1.trans l2) fun b' hb' => by simp at hb'; subst hb'; exact hb
    exact D5.get d3 (h0 e H3 l3)
  · refine D5.mk fun o H2 _ d2 l2 => bcF (D5.get d2 (patch_Copy.c (hx.up l2) hsx fun p1 c1 p2 c2 p3 c3 p4 c4 zs H3 l3 ho => ?_))
    have hb2 : H2 b ≠ none := (d.le l2).there
    refine put5 ((d.le l2).le l3) fun H4 d4 m4 _ => ?_
    have l4 : Le H H4 := m4.le ((l1.trans l2).trans l3) fun b' hb' => by simp at hb'; subst hb'; exact hb
    refine D5.get d4 (h1 x _ _ _ _ _ _ _ _ H4 _ _ _ _ zs H2 e l4 (l1.trans l2) ?_ hsx)
    exact Own.modN ho m4 hb2
end
end Go.Proofs.YtbpbgkpkkklipaaGreat
namespace Go.Proofs.YtbpbgkpkkklipaaGreat
open Go.V
/-! ### What is needed -/
inductive Reach (S : List Pt) (ids : List Int) : Int → Prop
  | base {k : Int} (h : k ∈ ids) : Reach S ids k
  | step {k d : Int} {x : Pt} (h : Reach S ids k) (hx : sGet S k = some x) (hd : d ∈ x.deps) : Reach S ids d
/-- Rising; what is needed and nothing else. -/
def NeedOf (S : List Pt) (ids n : List Int) : Prop := n.Pairwise (fun a b => Sort.ltInt a b = true) ∧ ∀ k, k ∈ n ↔ Reach S ids k
theorem Reach.in {S : List Pt} {ids : List Int} {k : Int} (h : Reach S ids k) : k ∈ ids ++ S.flatMap (·.deps) := by
  cases h with
  | base h => exact List.mem_append_left _ h
  | step h hx hd => exact List.mem_append_right _ (List.mem_flatMap.2 ⟨_, (sGet_some hx).1, hd⟩)
def depsOf (S : List Pt) (k : Int) : List Int := ((sGet S k).getD xz).deps
theorem Reach.dep {S : List Pt} {ids : List Int} {k d : Int} (h : Reach S ids k) (hd : d ∈ depsOf S k) : Reach S ids d := by
  unfold depsOf at hd
  cases hg : sGet S k with
  | none => rw [hg] at hd; cases hd
  | some x => rw [hg] at hd; exact h.step hg hd

theorem uBool : prog.underlying ty_map_uint32_bool = some (.map ty_uint32 ty_bool) := by kernel_rfl
theorem zBool (w : World) : (zeroValue ty_bool).run prog w = .ok (.bool false) w := zero_sc te_bool.ok rfl rfl w
theorem lkpB {H : Hp} {q : Nat} {ys : List Int} {k : Int} {F : Bool → Prop} (hM : MapAt fU H q (ys.map fun k => (k, .bool true))) (hF : F (decide (k ∈ ys))) :
    LKP prog ty_map_uint32_bool (some q) (.int .u32 k) false H fun v => liftB v fun x => F x := by
  refine lkp_v (enc := fU) (a := k) kU uBool zBool hM ?_
  by_cases hk : k ∈ ys
  · rw [mget_of hM.nodup (List.mem_map.2 ⟨k, hk, rfl⟩)]
    rw [decide_eq_true hk] at hF; exact hF
  · rw [mget_none.2 fun p hp e => hk (by obtain ⟨y, hy, rfl⟩ := List.mem_map.1 hp; subst e; exact hy)]
    rw [decide_eq_false hk] at hF; exact hF

theorem nodup_len {α : Type} [DecidableEq α] : ∀ {xs zs : List α}, xs.Nodup → (∀ x ∈ xs, x ∈ zs) → xs.length ≤ zs.length
  | [], _, _, _ => Nat.zero_le _
  | x :: xs, zs, hn, h => by
    rw [List.nodup_cons] at hn
    have := nodup_len (zs := zs.erase x) hn.2 fun y hy => (List.mem_erase_of_ne (by rintro rfl; exact hn.1 hy)).2 (h y (List.mem_cons_of_mem _ hy))
    rw [List.length_erase_of_mem (h x (by simp))] at this
    have hp := List.length_pos_of_mem (h x (by simp))
    rw [List.length_cons]; omega
theorem mem_dropLast_or {α : Type} {xs : List α} {x : α} (h : x ∈ xs) (hne : xs ≠ []) : x ∈ xs.dropLast ∨ x = xs.getLast hne := by
  rw [← List.dropLast_concat_getLast hne] at h
  simpa using h
section
variable {A H : Hp} {s : Option Addr} {m v : Nat} {S : List Pt} {p : Option Addr} {l cc : Nat} {ids : List Int}
theorem store_Store_needed_1.c {cap2 cap3 : Nat} {G : Int → Hp → (Al → Hp → Prop) → Prop} {K : Al → Hp → Prop} (hA0 : Acc 1 A H v [v] []) (hc2 : rd H cap2 0 = some (.slice p l cc)) (hc3 : rd H cap3 0 = some (.pointer s)) (h3v : cap3 ≠ v)
    (hd : Sl fU A p l cc ids) (hl : l ≤ 1000000) (hS : StAt A s m S) (hSl : S.length ≤ 1000)
    (hG : ∀ (ys : List Int) k Hx T (Kb : Al → Hp → Prop), Acc 1 A Hx v T (ys.map fU) → ys.length ≤ 2000000 → (∀ T' H', Acc 1 A H' v T' ((ys ++ [k]).map fU) → Mod T Hx H' → (∀ x ∈ T', x ∈ T ∨ Hx x = none) → Kb .on H') → G k Hx Kb)
    (hK : ∀ (ys : List Int) T Hx, Acc 1 A Hx v T (ys.map fU) → ys.Nodup → (∀ k, k ∈ ys ↔ Reach S ids k) → K .on Hx) : store_Store_needed_1.I cap2 cap3 H G K := by
  apply store_Store_needed_1.of
  intro q hq
  have l1 := Le.upd (c := mapV [] 0) hq
  have hM0 : MapAt fU (upd H q (mapV [] 0)) q [] := mapAt_new
  revert l1 hM0
  generalize upd H q (mapV [] 0) = H1
  intro l1 hM0
  have hA := hA0.1
  have hvq : q ∉ [v] := by
    intro h; simp at h; subst h; exact hA0.there q (by simp) hq
  have el := hd.len
  refine ldL_i (l1.rd hc2) (slices_Clone_uint32_uint32.c ((hd.le hA).le l1) hl fun p1 c1 H2 l2 hB => ?_)
  have hsd : ∀ x ∈ S, x.deps.length ≤ 1000 := by
    obtain ⟨b, l', _, _, _, h4⟩ := hS
    intro x hx
    have key : ∀ {l : List (Int × Value)} {S : List Pt}, Ents A l S → ∀ x ∈ S, PtSm x := fun {l} => by
      induction l with
      | nil => intro S h x hx; cases S with
        | nil => cases hx
        | cons => exact h.elim
      | cons e l ih => intro S h x hx; cases S with
        | nil => cases hx
        | cons y S =>
          rcases List.mem_cons.1 hx with rfl | hx
          · obtain ⟨_, _, _, _, _, _, _, _, _, _, _, _, _, _, h⟩ := h.2.1
            exact h
          · exact ih h.2.2 x hx
    exact (key h4 x hx).deps
  have hU : ∀ ys : List Int, ys.Nodup → (∀ k ∈ ys, Reach S ids k) → ys.length ≤ ids.length + 1000 * S.length := fun ys hn hr => by
    have h1 := nodup_len hn (fun k hk => (hr k hk).in)
    have h2 : (S.flatMap (·.deps)).length ≤ 1000 * S.length := by
      clear hS hG hK hr h1
      induction S with
      | nil => simp
      | cons x S ih =>
        have := ih (by simp at hSl; omega) (fun y hy => hsd y (List.mem_cons_of_mem _ hy))
        have h3 := hsd x (by simp)
        simp only [List.flatMap_cons, List.length_append, List.length_cons]
        omega
    rw [List.length_append] at h1
    omega
  have hN : ids.length + 1000 * S.length ≤ 2000000 := by omega
  refine ⟨fun p l c Hx => ∃ (left ys : List Int) (T : List Nat), MapAt fU Hx q (ys.map fun k => (k, Value.bool true)) ∧ Acc 1 A Hx v T (ys.map fU) ∧ Buf 1 A Hx p l c (left.map fU) ∧ Le A Hx ∧ rd Hx cap3 0 = some (.pointer s) ∧ q ∉ T ∧ cap3 ∉ T ∧ Apart p (some ⟨v, 0, none⟩) ∧ (∀ x ∈ T, x ∉ blkL p) ∧
      (∀ k ∈ ys, Reach S ids k) ∧ (∀ k ∈ left, Reach S ids k) ∧ (∀ k ∈ ids, k ∈ ys ∨ k ∈ left) ∧ (∀ k ∈ ys, ∀ d ∈ depsOf S k, d ∈ ys ∨ d ∈ left) ∧ left.length ≤ 1000000 + 1000 * ys.length,
    fun p l c Hx => 1001 * (ids.length + 1000 * S.length + 2 - itN Hx q) + l, ?_, ?_⟩
  · refine ⟨ids, [], [v], hM0.le l2, (hA0.le l1).le l2, bBack hB (hA.trans l1), (hA.trans l1).trans l2, (l1.trans l2).rd hc3, hvq, by simpa using h3v, ?_, ?_, by simp, fun k hk => .base hk, fun k hk => .inr hk, by simp, by simp; omega⟩
    · intro b o o' e e'
      simp only [Option.some.injEq, Addr.mk.injEq] at e'
      obtain ⟨rfl, _⟩ := e'
      exact (hA0.le l1).there v (by simp) (hB.fr v o e)
    · intro x hx hb
      simp at hx; subst hx
      exact (hA0.le l1).there x (by simp) (hB.fr x 0 (blkL_mem hB.zero hb))
  rintro p' l' c' Hx ⟨left, ys, T, hM, hAc, hBl, lA, hr3, hqT, h3T, hap, hTp, hry, hrl, hids, hdep, hll⟩
  have hnd : ys.Nodup := by have := hM.nodup; rw [List.map_map] at this; simpa [Function.comp_def] using this
  have hlen : l' = left.length := by have := hBl.1; simpa using this
  have hyl := hU ys hnd hry
  have hN1 := hM.itN
  rw [List.length_map] at hN1
  refine bcd (fun hpos => ?_) fun hpos => ?_
  · have hne : left ≠ [] := fun e => by subst e; simp at hlen; omega
    have hpl : 0 < l' := by omega
    have hlast : left[l' - 1]'(by omega) = left.getLast hne := by rw [List.getLast_eq_getElem]; congr 1; omega
    refine chk (by omega) (idxN (l' - 1) (by omega) (by omega) ?_)
    obtain ⟨b, o, rfl, hrd⟩ := hBl.sl.at (i := l' - 1) (by omega)
    refine nil (ldI_i (hrd (l' - 1) (by omega)) (chk (by omega) (bnd01 (l' - 1) (by omega) (by have := hBl.sl.2.1; omega) ?_)))
    rw [hlast]
    have hpop := hBl.pop hpl
    rw [← List.map_dropLast] at hpop
    generalize hk : left.getLast hne = k
    have hkr : Reach S ids k := hrl k (by rw [← hk]; exact List.getLast_mem hne)
    have hpmov : movA (some ⟨b, o, none⟩) 0 1 c' = some ⟨b, o, none⟩ := by unfold movA mulS; simp
    rw [hpmov] at hpop ⊢
    refine lkpB hM (bcd (fun hin => ?_) fun hin => ?_)
    · refine ⟨⟨left.dropLast, ys, T, hM, hAc, hpop, lA, hr3, hqT, h3T, hap, hTp, hry, fun k hk => hrl k (List.dropLast_subset _ hk), fun k' hk' => ?_, fun k' hk' d hd => ?_, by rw [List.length_dropLast]; omega⟩, by dsimp only; omega⟩
      · rcases hids k' hk' with h | h
        · exact .inl h
        · rcases mem_dropLast_or h hne with h | h
          · exact .inr h
          · left; rw [h, hk]; exact hin
      · rcases hdep k' hk' d hd with h | h
        · exact .inl h
        · rcases mem_dropLast_or h hne with h | h
          · exact .inr h
          · left; rw [h, hk]; exact hin
    have hAq : A q = none := none_of_le hA hq
    refine mup (enc := fU) (a := k) kU uBool hM fun H3 hM3 m3 _ => ?_
    have hset : mset (ys.map fun k => (k, Value.bool true)) k (.bool true) = (ys ++ [k]).map fun k => (k, Value.bool true) := by
      unfold mset
      rw [mget_none.2 fun p hp e => hin (by obtain ⟨y, hy, rfl⟩ := List.mem_map.1 hp; subst e; exact hy)]
      simp
    rw [hset] at hM3
    have hqb : ∀ (b o : Nat), some (⟨b, o, none⟩ : Addr) = some ⟨b, o, none⟩ → True := fun _ _ _ => trivial
    have hbq : b ≠ q := by
      intro e
      subst e
      have := hrd (l' - 1) (by omega)
      rw [hM.no] at this; cases this
    have hA3 := hAc.mod m3 (by simpa using hAq) (fun x hx hxq => by simp at hxq; subst hxq; exact hqT hx)
    have hB3 := hpop.mod m3 (fun b' o' e => by simp at e; obtain ⟨rfl, _⟩ := e; simpa using hbq)
    have l3 : Le A H3 := m3.le lA (by simpa using hAq)
    have hr33 : rd H3 cap3 0 = some (.pointer s) := hM.lr m3 _ _ _ hr3
    have hnd2 : (ys ++ [k]).Nodup := by have := hM3.nodup; rw [List.map_map] at this; simpa [Function.comp_def] using this
    have hry2 : ∀ k' ∈ ys ++ [k], Reach S ids k' := fun k' hk' => by
      simp at hk'
      rcases hk' with h | rfl
      · exact hry k' h
      · exact hkr
    have hyl2 := hU _ hnd2 hry2
    rw [List.length_append, List.length_singleton] at hyl2
    refine hG ys k H3 T _ hA3 (by omega) fun T' H4 hA4 m4 hT' => alOn ?_
    have hM4 : MapAt fU H4 q _ := hM3.mod m4 hqT
    have hbT : ∀ x ∈ T, x ≠ b := fun x hx e => hTp x hx (by simp [blkL, e])
    have hB4 := hB3.mod m4 (fun b' o' e => by simp at e; obtain ⟨rfl, _⟩ := e; exact fun h => hbT _ h rfl)
    have l4 : Le A H4 := hA4.1
    have hr4 : rd H4 cap3 0 = some (.pointer s) := m4.rd h3T hr33
    have hS4 := hS.le l4
    obtain ⟨bs, ls, rfl, hs2, hs3, hs4⟩ := hS4
    refine ldP_i hr4 (nil ⟨_, hs2, lkpQ hs3 hs4 fun dp dl dc _ _ _ _ _ _ _ _ _ hx hsx => ?_⟩)
    have hdl : dl = (depsOf S k).length := hx.2.1.len
    have hdx : (depsOf S k).length ≤ 1000 := hsx.deps
    have hqT' : q ∉ T' := fun h => by
      rcases hT' q h with h | h
      · exact hqT h
      · exact hM3.some h
    have h3T' : cap3 ∉ T' := fun h => by
      rcases hT' cap3 h with h | h
      · exact h3T h
      · exact ne_none_of_rd hr33 h
    have hbT' : ∀ x ∈ T', x ≠ b := fun x hx e => by
      rcases hT' x hx with h | h
      · exact hbT x h e
      · subst e
        rcases hB3.2 with ⟨h0, _⟩ | ⟨b', r, h1, _, h3, _⟩
        · cases h0
        · simp at h1; obtain ⟨rfl, _⟩ := h1; rw [h3] at h; cases h
    have hAb : A b = none := hB4.fr b o rfl
    refine hB4.appS (te := te_uint32) (new := (depsOf S k).map fU) (n := dl) rfl (by decide) rfl (by decide) (by rw [List.length_map, hdl]; omega) (by simp [isCell]) (by simp [te_uint32]; omega) (fun G hg => sl_src hx.2.1 G hg) (fun p5 c5 H5 hB5 hp5 m5 => ?_) l4.was
    have hTb : ∀ x ∈ T', x ∉ blkL (some (⟨b, o, none⟩ : Addr)) := fun x hx' h => hbT' x hx' (by simpa [blkL] using h)
    have hA5 := hA4.mod m5 (fun x hx' => by simp [blkL] at hx'; subst hx'; exact hAb) hTb
    have hp5T : ∀ x ∈ T', x ∉ blkL p5 := fun x hx' h => by
      rcases hp5 with rfl | hp5
      · exact hTb x hx' h
      · exact hA4.there x hx' (hp5 x 0 (blkL_mem hB5.zero h))
    rw [← List.map_append] at hB5
    refine ⟨⟨left.dropLast ++ depsOf S k, ys ++ [k], T', hM4.mod m5 (by simpa [blkL] using Ne.symm hbq), hA5, hB5, hA5.1, m5.rd (fun h => ?_) hr4, hqT', h3T', ?_, hp5T, hry2, fun k' hk' => ?_, fun k' hk' => ?_, fun k' hk' d hd => ?_, ?_⟩, ?_⟩
    · simp [blkL] at h
      subst h
      rcases hBl.2 with ⟨h0, _⟩ | ⟨b', r, h1, _⟩
      · cases h0
      · simp only [Option.some.injEq, Addr.mk.injEq, and_true] at h1
        obtain ⟨rfl, rfl⟩ := h1
        have := hrd 0 (by omega)
        rw [Nat.zero_add, hr3] at this
        cases this
    · intro b' o' o'' e e'
      simp only [Option.some.injEq, Addr.mk.injEq] at e'
      obtain ⟨rfl, _⟩ := e'
      have hvT' : v ∈ T' := by obtain ⟨_, _, _, _, _, rfl, _⟩ := hA4; simp
      exact hp5T v hvT' (by rw [e]; simp [blkL])
    · rcases List.mem_append.1 hk' with h | h
      · exact hrl k' (List.dropLast_subset _ h)
      · exact hkr.dep h
    · rcases hids k' hk' with h | h
      · exact .inl (List.mem_append_left _ h)
      · rcases mem_dropLast_or h hne with h | h
        · exact .inr (List.mem_append_left _ h)
        · left; rw [h, hk]; simp
    · rcases List.mem_append.1 hk' with h | h
      · rcases hdep k' h d hd with h | h
        · exact .inl (List.mem_append_left _ h)
        · rcases mem_dropLast_or h hne with h | h
          · exact .inr (List.mem_append_left _ h)
          · left; rw [h, hk]; simp
      · simp at h; subst h
        exact .inr (List.mem_append_right _ hd)
    · rw [List.length_append, List.length_append, List.length_dropLast, List.length_singleton, ← hdl]
      have : dl ≤ 1000 := by rw [hdl]; exact hdx
      omega
    · have e5 : itN H5 q = ys.length + 2 := by
        have := (hM4.mod m5 (by simpa [blkL] using Ne.symm hbq)).itN
        rw [this]; simp
      have : dl ≤ 1000 := by rw [hdl]; exact hdx
      dsimp only
      rw [e5, hN1]
      omega
  · have h0 : left = [] := List.length_eq_zero_iff.1 (by omega)
    subst h0
    refine hK ys T Hx hAc hnd fun k => ⟨hry k, fun h => ?_⟩
    induction h with
    | base h => exact (hids _ h).resolve_right (by simp)
    | step h hx hd ih => exact (hdep _ ih _ (by unfold depsOf; rw [hx]; exact hd)).resolve_right (by simp)
end
end Go.Proofs.YtbpbgkpkkklipaaGreat
namespace Go.Proofs.YtbpbgkpkkklipaaGreat
open Go.V
/-! ### What is needed, closed, listed, used -/
theorem nodup_of_len : ∀ {xs ys : List Int}, ys.Nodup → (∀ k ∈ ys, k ∈ xs) → xs.length ≤ ys.length → xs.Nodup
  | [], _, _, _, _ => List.nodup_nil
  | x :: xs, ys, hn, h, hl => by
    rw [List.nodup_cons]
    have hx : x ∉ xs := fun hx => by
      have := nodup_len hn (zs := xs) fun k hk => by
        rcases List.mem_cons.1 (h k hk) with rfl | h'
        · exact hx
        · exact h'
      rw [List.length_cons] at hl; omega
    refine ⟨hx, ?_⟩
    by_cases hy : x ∈ ys
    · refine nodup_of_len (ys := ys.erase x) (hn.erase x) (fun k hk => ?_) (by rw [List.length_erase_of_mem hy]; rw [List.length_cons] at hl; omega)
      have h1 := (hn.mem_erase_iff).1 hk
      exact (List.mem_cons.1 (h k h1.2)).resolve_left h1.1
    · refine nodup_of_len hn (fun k hk => ?_) (by rw [List.length_cons] at hl; omega)
      exact (List.mem_cons.1 (h k hk)).resolve_left (fun e => hy (e ▸ hk))
theorem ents_sm {H : Hp} : ∀ {l : List (Int × Value)} {S : List Pt}, Ents H l S → ∀ x ∈ S, PtSm x
  | [], [], _, _, h => by cases h
  | [], _ :: _, h, _, _ => h.elim
  | _ :: _, [], h, _, _ => h.elim
  | e :: l, y :: S, h, x, hx => by
    rcases List.mem_cons.1 hx with rfl | hx
    · obtain ⟨_, _, _, _, _, _, _, _, _, _, _, _, _, _, h⟩ := h.2.1
      exact h
    · exact ents_sm h.2.2 x hx
theorem StAt.sm {H : Hp} {s : Option Addr} {m : Nat} {S : List Pt} (h : StAt H s m S) : ∀ x ∈ S, PtSm x := by
  obtain ⟨b, l', _, _, _, h4⟩ := h
  exact ents_sm h4
theorem StAt.deps {H : Hp} {s : Option Addr} {m : Nat} {S : List Pt} (h : StAt H s m S) : (S.flatMap (·.deps)).length ≤ 1000 * S.length := by
  have hs := h.sm
  clear h
  induction S with
  | nil => simp
  | cons x S ih =>
    have := ih (fun y hy => hs y (List.mem_cons_of_mem _ hy))
    have h3 := (hs x (by simp)).deps
    simp only [List.flatMap_cons, List.length_append, List.length_cons]
    omega
section
variable {H : Hp} {s : Option Addr} {m : Nat} {S : List Pt} {p : Option Addr} {l cc : Nat} {ids : List Int}
def thereB (S : List Pt) (ids : List Int) : Bool := ids.all fun k => (sGet S k).isSome
theorem store_Store_Need.c {K : Option Addr → Nat → Nat → Int → Hp → Prop} (hS : StAt H s m S) (hSl : S.length ≤ 1000) (h : Sl fU H p l cc ids) (hl : l ≤ 1000000)
    (h0 : thereB S ids = false → ∀ H', Le H H' → K none 0 0 15 H') (h1 : thereB S ids = true → ∀ n p' l' c' H', Le H H' → NeedOf S ids n → Sl fU H' p' l' c' n → K p' l' c' 0 H') : store_Store_Need.C s p l cc H K := by
  apply store_Store_Need.of
  refine store_Store_has.c hS h (by omega) fun H1 l1 => bcn (fun hr => h0 hr _ l1) fun hr v hv => ?_
  have l2 := Le.upd (c := [.slice none 0 0]) hv
  have hA0 : Acc 1 H1 (upd H1 v [.slice none 0 0]) v [v] [] := Acc.start hv l2 (by rw [rd_upd_self]; rfl)
  revert l2 hA0
  generalize upd H1 v [.slice none 0 0] = H2
  intro l2 hA0
  apply store_Store_needed.of
  intro q3 hq3 q2 hq2
  have l3 := Le.upd (c := [.pointer s]) hq3
  have l4 := Le.upd (c := [.slice p l cc]) hq2
  have r3 : rd (upd (upd H2 q3 [.pointer s]) q2 [.slice p l cc]) q3 0 = some (.pointer s) := l4.rd (by rw [rd_upd_self]; rfl)
  have r2 : rd (upd (upd H2 q3 [.pointer s]) q2 [.slice p l cc]) q2 0 = some (.slice p l cc) := by rw [rd_upd_self]; rfl
  revert l3 l4 r2 r3 hq2
  generalize upd H2 q3 [.pointer s] = H3
  intro hq2
  generalize upd H3 q2 [.slice p l cc] = H4
  intro l3 l4 r3 r2
  show store_Store_needed_1.I q2 q3 H4 _ _
  refine store_Store_needed_1.c ((hA0.le l3).le l4) r2 r3 (by rintro rfl; exact hA0.there q3 (by simp) hq3) (h.le l1) hl (hS.le l1) hSl (fun ys k Hx T Kb hA hy hk => ?_) fun ys T Hx hA hn hm => ?_
  · refine hA.push (te := te_uint32) rfl (by decide) rfl (by decide) rfl rfl (by simp [te_uint32]; omega) fun T' H' hA' m' hT => hk T' H' (by simpa using hA') m' hT
  · refine alOn ?_
    have hle := hA.1
    obtain ⟨h1', h2', p5, l5, c5, rfl, h3', h4', h5'⟩ := hA
    have e5 : l5 = ys.length := by have := h4'.1; simpa using this
    have hb5 : ∀ b ∈ blkL p5, H1 b = none := fun b hb => h4'.fr b 0 (blkL_mem h4'.zero hb)
    have hys : ys.length ≤ 1000000 + 1000 * 1000 := by
      have h1 := nodup_len hn (fun k hk => ((hm k).1 hk).in)
      rw [List.length_append] at h1
      have el := h.len
      have h2 := hS.deps
      omega
    refine ldL_i h3' (slices_Sort_uint32_uint32.c h4'.sl (by omega) fun H6 zs s6 hp hw m6 => ?_)
    have hvb : v ∉ blkL p5 := fun hb => h5' v 0 0 (blkL_mem h4'.zero hb) rfl
    refine ldL_i (m6.rd hvb h3') (h1 hr zs _ _ _ H6 (l1.trans (m6.le h1' hb5)) ⟨?_, fun k => hp.mem_iff.trans (hm k)⟩ s6)
    refine List.Pairwise.imp₂ (fun a b h1 h2 => ?_) hw (hp.nodup_iff.2 hn)
    cases h : Sort.ltInt a b with
    | true => rfl
    | false => exact absurd (ltInt_anti h h1) h2
def closedB (S : List Pt) (ids : List Int) : Prop := thereB S ids = true ∧ ids.Nodup ∧ ∀ k ∈ ids, ∀ d ∈ depsOf S k, d ∈ ids
instance {S : List Pt} {ids : List Int} : Decidable (closedB S ids) := by unfold closedB; infer_instance
theorem needOf_uniq {S : List Pt} {ids n n' : List Int} (h : NeedOf S ids n) (h' : NeedOf S ids n') : n = n' :=
  sorted_lt_mem ltInt_irr (fun _ _ => ltInt_anti) ltInt_tr h.1 h'.1 fun k => (h.2 k).trans (h'.2 k).symm
theorem reach_closed {S : List Pt} {ids : List Int} (h : ∀ k ∈ ids, ∀ d ∈ depsOf S k, d ∈ ids) {k : Int} (hr : Reach S ids k) : k ∈ ids := by
  induction hr with
  | base h => exact h
  | step _ hx hd ih => exact h _ ih _ (by unfold depsOf; rw [hx]; exact hd)
theorem lt_nodup {n : List Int} (h : n.Pairwise fun a b => Sort.ltInt a b = true) : n.Nodup := h.imp fun h e => by subst e; rw [ltInt_irr] at h; cases h
theorem store_Store_Closed.c {K : Bool → Hp → Prop} (hS : StAt H s m S) (hSl : S.length ≤ 1000) (h : Sl fU H p l cc ids) (hl : l ≤ 1000000) (hK : ∀ H', Le H H' → K (decide (closedB S ids)) H') : store_Store_Closed.C s p l cc H K := by
  apply store_Store_Closed.of
  have el := h.len
  refine store_Store_Need.c hS hSl h hl (fun e H1 l1 => bcd (fun h => absurd h (by decide)) fun _ => ?_) fun e n p1 l1 c1 H1 le1 hn hs => bcT ?_
  · have : ¬ closedB S ids := fun hc => by rw [hc.1] at e; cases e
    have := hK H1 l1
    rw [decide_eq_false (by assumption)] at this; exact this
  have e1 := hs.len
  refine bcd (fun hlen => ?_) fun hlen => ?_
  · refine store_set.c (h.le le1) hl fun p2 l2 c2 H2 le2 hs2 _ _ => slices_Equal_uint32_uint32.c (hs.le le2) hs2 (by omega) ?_
    have key : (n = setL ids) ↔ closedB S ids := by
      constructor
      · intro hne
        have hnl : n.length = ids.length := by omega
        have hnd : ids.Nodup := by
          have h1 := lt_nodup hn.1
          rw [hne] at h1 hnl
          have h2 : ∀ k ∈ ids, k ∈ setL ids := fun k hk => setL_mem.2 hk
          exact nodup_of_len h1 (fun k hk => setL_mem.1 hk) (by omega)
        exact ⟨e, hnd, fun k hk d hd => by
          have h3 : Reach S ids d := (Reach.base hk).dep hd
          have := (hn.2 d).2 h3
          rw [hne] at this; exact setL_mem.1 this⟩
      · rintro ⟨_, h2, h3⟩
        exact setL_eq hn.1 fun k => (hn.2 k).trans ⟨reach_closed h3, .base⟩
    have e : decide (n = setL ids) = decide (closedB S ids) := by
      by_cases hc : closedB S ids
      · rw [decide_eq_true hc, decide_eq_true (key.2 hc)]
      · rw [decide_eq_false hc, decide_eq_false (fun h => hc (key.1 h))]
    rw [e]; exact hK _ (le1.trans le2)
  · have : ¬ closedB S ids := fun hc => by
      have h4 : n.length = ids.length := by
        have a := nodup_len (lt_nodup hn.1) (fun k hk => reach_closed hc.2.2 ((hn.2 k).1 hk))
        have b := nodup_len hc.2.1 (fun k hk => (hn.2 k).2 (.base hk))
        omega
      omega
    have := hK H1 le1
    rw [decide_eq_false (by assumption)] at this; exact this
end
end Go.Proofs.YtbpbgkpkkklipaaGreat
namespace Go.Proofs.YtbpbgkpkkklipaaGreat
open Go.V
/-! ### Rows of patches -/
def PtL (H : Hp) (p : Option Addr) (l c : Nat) (xs : List Pt) : Prop :=
  l = xs.length ∧ l ≤ c ∧ (xs = [] ∨ ∃ b o, p = some ⟨b, o, none⟩ ∧ ∀ i (h : i < xs.length), ∃ dp dl dc mp ml mc qp ql qc hp hl hc, rd H b (o + i * 5) = some (.int .u32 xs[i].id) ∧ rd H b (o + i * 5 + 1) = some (.slice dp dl dc) ∧ rd H b (o + i * 5 + 1 + 1) = some (.slice mp ml mc) ∧ rd H b (o + i * 5 + 1 + 1 + 1) = some (.slice qp ql qc) ∧ rd H b (o + i * 5 + 1 + 1 + 1 + 1) = some (.slice hp hl hc) ∧
    PtS H xs[i].id dp dl dc mp ml mc qp ql qc hp hl hc xs[i] ∧ (hl ≤ 9223372036854775807 ∧ ml ≤ 9223372036854775807 ∧ ql ≤ 9223372036854775807))
section
variable {H H' : Hp} {p : Option Addr} {l c : Nat} {xs : List Pt}
theorem PtL.le (h : PtL H p l c xs) (hl : Le H H') : PtL H' p l c xs := by
  refine ⟨h.1, h.2.1, h.2.2.imp id fun ⟨b, o, e, hh⟩ => ⟨b, o, e, fun i hi => ?_⟩⟩
  obtain ⟨dp, dl, dc, mp, ml, mc, qp, ql, qc, hp, hl', hc, h1, h2, h3, h4, h5, h6, h7⟩ := hh i hi
  exact ⟨dp, dl, dc, mp, ml, mc, qp, ql, qc, hp, hl', hc, hl.rd h1, hl.rd h2, hl.rd h3, hl.rd h4, hl.rd h5, h6.up hl, h7⟩
theorem rsP (h : PtL H p l c xs) {k : Nat} {e : Int} (he : e = (k : Int)) (hk : k < xs.length) {F : Int → Option Addr → Nat → Nat → Option Addr → Nat → Nat → Option Addr → Nat → Nat → Option Addr → Nat → Nat → Prop}
    (hF : ∀ dp dl dc mp ml mc qp ql qc hp hl hc, PtS H xs[k].id dp dl dc mp ml mc qp ql qc hp hl hc xs[k] → (hl ≤ 9223372036854775807 ∧ ml ≤ 9223372036854775807 ∧ ql ≤ 9223372036854775807) → F xs[k].id dp dl dc mp ml mc qp ql qc hp hl hc) :
    IDX e l fun k => NIL p fun b o => ldI .u32 (rd H b (o + (k * 5))) fun x => ldL (rd H b ((o + (k * 5)) + 1)) fun dp dl dc => ldL (rd H b (((o + (k * 5)) + 1) + 1)) fun mp ml mc => ldL (rd H b ((((o + (k * 5)) + 1) + 1) + 1)) fun qp ql qc => ldL (rd H b (((((o + (k * 5)) + 1) + 1) + 1) + 1)) fun hp hl hc => F x dp dl dc mp ml mc qp ql qc hp hl hc := by
  have hl := h.1
  rcases h.2.2 with h0 | ⟨b, o, rfl, hh⟩
  · subst h0; simp at hk
  · obtain ⟨dp, dl, dc, mp, ml, mc, qp, ql, qc, hp, hl', hc, h1, h2, h3, h4, h5, h6, h7⟩ := hh k hk
    exact idxN k he (by omega) (nil (ldI_i h1 (ldL_i h2 (ldL_i h3 (ldL_i h4 (ldL_i h5 (hF _ _ _ _ _ _ _ _ _ _ _ _ h6 h7)))))))
end
/-- What of a patch lies elsewhere. -/
structure PD where
  dp : Option Addr
  dl : Nat
  dc : Nat
  mp : Option Addr
  ml : Nat
  mc : Nat
  qp : Option Addr
  ql : Nat
  qc : Nat
  hp : Option Addr
  hl : Nat
  hc : Nat
def pdC (z : Pt × PD) : List Value := [.int .u32 z.1.id, .slice z.2.dp z.2.dl z.2.dc, .slice z.2.mp z.2.ml z.2.mc, .slice z.2.qp z.2.ql z.2.qc, .slice z.2.hp z.2.hl z.2.hc]
def PdS (H : Hp) (z : Pt × PD) : Prop := PtS H z.1.id z.2.dp z.2.dl z.2.dc z.2.mp z.2.ml z.2.mc z.2.qp z.2.ql z.2.qc z.2.hp z.2.hl z.2.hc z.1
/-- Patches in a row of new memory; of each, nothing lies in the row itself. -/
def PtB (A H : Hp) (p : Option Addr) (l c : Nat) (xs : List Pt) : Prop := ∃ zs : List (Pt × PD), zs.map (·.1) = xs ∧ Buf 5 A H p l c (zs.flatMap pdC) ∧ ∀ z ∈ zs, PdS (but H p) z ∧ PtSm z.1
section
variable {A H H' : Hp} {p p' : Option Addr} {l c : Nat} {xs : List Pt}
theorem but_mono (h : Le H H') : Le (but H p) (but H' p) := fun b d e => by
  unfold but at e ⊢
  split at e
  · split at e
    · cases e
    · rename_i h1; rw [if_neg h1]; exact h b d e
  · exact h b d e
theorem but_push (hm : Mod (blkL p) H H') (hp : p' = p ∨ New H p') (hz : ∀ a, p' = some a → a.spot = Option.none) : Le (but H p) (but H' p') := fun b d e => by
  have hb : H b = some d := but_le b d e
  have hbp : b ∉ blkL p := fun h => by
    unfold blkL at h
    unfold but at e
    split at h
    · simp at h; subst h; simp at e
    · cases h
  have e' := hm b hbp d hb
  unfold but
  split
  · rename_i a
    have : b ≠ a.block := fun h => by
      subst h
      rcases hp with rfl | hp
      · exact hbp (by simp [blkL])
      · have hs := hz a rfl
        have := hp a.block a.off (by obtain ⟨x, y, z⟩ := a; simp only at hs; rw [hs])
        rw [this] at hb; cases hb
    rw [if_neg this]; exact e'
  · exact e'
theorem PtB.none : PtB A H none 0 0 [] := ⟨[], rfl, Buf.none, by simp⟩
theorem PtB.le (h : PtB A H p l c xs) (hl : Le H H') : PtB A H' p l c xs := by
  obtain ⟨zs, h1, h2, h3⟩ := h
  exact ⟨zs, h1, h2.le hl, fun z hz => ⟨PtS.up (h3 z hz).1 (but_mono hl), (h3 z hz).2⟩⟩
theorem pdC_len (z : Pt × PD) : (pdC z).length = 5 := rfl
theorem PtB.len (h : PtB A H p l c xs) : l = xs.length := by
  obtain ⟨zs, rfl, h2, _⟩ := h
  have := (h2.sn pdC_len (by decide)).1
  rw [List.length_map]; exact this
theorem PtB.ptL (h : PtB A H p l c xs) : PtL H p l c xs := by
  have hl := h.len
  obtain ⟨zs, rfl, h2, h3⟩ := h
  have hs := h2.sn pdC_len (by decide)
  refine ⟨hl, hs.2.1, ?_⟩
  by_cases hn : zs = []
  · left; rw [hn]; rfl
  · right
    rcases hs.2.2 with h0 | ⟨b, o, e, hr⟩
    · exact absurd h0 hn
    refine ⟨b, o, e, fun i hi => ?_⟩
    rw [List.length_map] at hi
    have hz := h3 zs[i] (List.getElem_mem hi)
    have hx := PtS.up hz.1 but_le
    have sm := hz.2
    rw [List.getElem_map]
    refine ⟨_, _, _, _, _, _, _, _, _, _, _, _, hr i hi 0 _ rfl, hr i hi 1 _ rfl, hr i hi 2 _ rfl, hr i hi 3 _ rfl, hr i hi 4 _ rfl, hx, ?_⟩
    have e1 := hx.2.2.1.len
    have e2 := hx.2.2.2.1.len
    have e3 := hx.2.2.2.2.1
    have := sm.makes
    have := sm.drops
    have := sm.hunks
    omega
theorem Buf.butN {s : Nat} {q : Option Addr} {n k : Nat} {cells : List Value} (h : Buf s A H q n k cells) (hp : ∀ b ∈ blkL p, A b ≠ none) : Buf s A (but H p) q n k cells := by
  refine ⟨h.1, h.2.imp id fun ⟨b, r, h1, h2, h3, h4⟩ => ⟨b, r, h1, h2, ?_, h4⟩⟩
  unfold but
  split
  · rename_i a
    have : b ≠ a.block := fun e => hp a.block (by simp [blkL]) (by rw [← e]; exact h2)
    rw [if_neg this]; exact h3
  · exact h3
theorem Own.butN {id : Int} {dp mp qp hp : Option Addr} {dl dc ml mc ql qc hl hc : Nat} {x : Pt} {zs : List (BL × HD)} (h : Own A H id dp dl dc mp ml mc qp ql qc hp hl hc x zs) (hb : ∀ b ∈ blkL p, A b ≠ none) : PtS (but H p) id dp dl dc mp ml mc qp ql qc hp hl hc x := by
  obtain ⟨h1, h2, h3, h4, ⟨h5, h6, h7⟩, h8⟩ := h
  refine ⟨h1, (Buf.butN h2 hb).sl, (Buf.butN h3 hb).sl, (Buf.butN h4 hb).sl, HkH.of h5 ((Buf.butN h6 hb).sn hdC_len (by decide)) fun j j1 j2 => ⟨(h7 j j1 j2).1, ?_, ?_, ?_⟩⟩
  · exact (Buf.butN (h7 j j1 j2).2.1 hb).sl
  · exact (Buf.butN (h7 j j1 j2).2.2.1 hb).sn edC_len (by decide)
  · exact (Buf.butN (h7 j j1 j2).2.2.2 hb).sn lidC_len (by decide)
/-- One patch more, made at a time when the row was there. -/
theorem PtB.push {H2 : Hp} {id : Int} {dp mp qp hp : Option Addr} {dl dc ml mc ql qc hl hc : Nat} {x : Pt} (h : PtB A H2 p l c xs) (hA : Was A H2) (ho : PtS (but H2 p) id dp dl dc mp ml mc qp ql qc hp hl hc x) (hs : PtSm x) (hfit : l ≤ 1000000)
    {F : Option Addr → Nat → Nat → Hp → Prop} (hF : ∀ p' c' H', PtB A H' p' (l + 1) c' (xs ++ [x]) → (p' = p ∨ New H2 p') → Mod (blkL p) H2 H' → F p' (l + 1) c' H') :
    NEW H2 ([.int .u32 id, .slice dp dl dc, .slice mp ml mc, .slice qp ql qc, .slice hp hl hc]) fun b H1 => APP H1 te_api_Patch p l c (.slice (some ⟨b, 0, Option.none⟩) 1 1) F := by
  obtain ⟨zs, rfl, h2, h3⟩ := h
  have hid := ho.1
  subst hid
  refine h2.pushS (te := te_api_Patch) (new := [.int .u32 x.id, .slice dp dl dc, .slice mp ml mc, .slice qp ql qc, .slice hp hl hc]) rfl (by decide) rfl (by decide) rfl rfl (by simp [te_api_Patch]; omega) (fun p' c' H' hB hp' m' => hF p' c' H' ?_ hp' m') hA
  have hz : ∀ a, p' = some a → a.spot = Option.none := fun a e => by
    rcases hB.2 with ⟨h0, _⟩ | ⟨b, r, h1, _⟩
    · rw [h0] at e; cases e
    · rw [h1] at e; cases e; rfl
  have hle := but_push m' hp' hz
  refine ⟨zs ++ [(x, ⟨dp, dl, dc, mp, ml, mc, qp, ql, qc, hp, hl, hc⟩)], by simp, by rw [List.flatMap_append]; simpa [pdC] using hB, fun z hz => ?_⟩
  rcases List.mem_append.1 hz with hz | hz
  · exact ⟨PtS.up (h3 z hz).1 hle, (h3 z hz).2⟩
  · simp at hz; subst hz
    exact ⟨PtS.up ho hle, hs⟩
end
end Go.Proofs.YtbpbgkpkkklipaaGreat
namespace Go.Proofs.YtbpbgkpkkklipaaGreat
open Go.V
/-! ### Users, lists -/
section
variable {H : Hp} {s : Option Addr} {m : Nat} {S : List Pt} {p : Option Addr} {l cc : Nat} {ids : List Int}
def usersL (S : List Pt) (ids : List Int) (k : Int) : List Int := (setL ids).filter fun y => decide (k ∈ depsOf S y)
theorem store_Store_Users.c {k : Int} {K : Option Addr → Nat → Nat → Hp → Prop} (hS : StAt H s m S) (h : Sl fU H p l cc ids) (hl : l ≤ 1000000) (hK : ∀ p' l' c' H', Le H H' → Sl fU H' p' l' c' (usersL S ids k) → K p' l' c' H') : store_Store_Users.C s p l cc k H K := by
  apply store_Store_Users.of
  intro b1 hb1 b2 hb2
  have l1 := Le.upd (c := [.pointer s]) hb1
  have l2 := Le.upd (c := [.int .u32 k]) hb2
  have r1 : rd (upd (upd H b1 [.pointer s]) b2 [.int .u32 k]) b1 0 = some (.pointer s) := l2.rd (by rw [rd_upd_self]; rfl)
  have r2 : rd (upd (upd H b1 [.pointer s]) b2 [.int .u32 k]) b2 0 = some (.int .u32 k) := by rw [rd_upd_self]; rfl
  have l12 := l1.trans l2
  revert l12 r1 r2
  generalize upd (upd H b1 [.pointer s]) b2 [.int .u32 k] = H2
  intro r1 r2 l12
  clear hb2 l1 l2 hb1
  have el := h.len
  refine store_set.c (h.le l12) hl fun p3 l3 c3 H3 le3 s3 hn3 ho3 => ?_
  have e3 := s3.len
  have hlen : (setL ids).length ≤ ids.length := nodup_len (lt_nodup (setL_pw ids)) fun k hk => setL_mem.1 hk
  have hz : ∀ b ∈ blkL p3, H2 b = none := fun b hb => by
    rcases ho3 with rfl | ⟨b', o', rfl⟩
    · cases hb
    · simp [blkL] at hb; subst hb; exact hn3 _ _ rfl
  refine slices_DeleteFunc_uint32_uint32.c (q := fun y => !decide (k ∈ depsOf S y)) s3 (by omega) ho3 (fun Hx y _ G mx hk => ?_) fun l4 H4 s4 m4 => ?_
  · show store_Store_Users_1.C y b1 b2 Hx G
    apply store_Store_Users_1.of
    have lx : Le H2 Hx := mx.le le3 hz
    have hSx := (hS.le l12).le lx
    obtain ⟨b, l', rfl, h2, h3, h4⟩ := hSx
    refine ldP_i (lx.rd r1) (nil ⟨_, h2, ldI_i (lx.rd r2) (lkpQ h3 h4 fun dp dl dc _ _ _ _ _ _ _ _ _ hx hsx => ⟨lx.rd r2, ?_⟩)⟩)
    have := hx.2.1.len
    have := hsx.deps
    exact slices_Contains_uint32_uint32.c hx.2.1 (by omega) (hk Hx (Le.refl _))
  · have e : ((setL ids).filter fun y => !(!decide (k ∈ depsOf S y))) = usersL S ids k := by unfold usersL; congr 1; funext y; rw [Bool.not_not]
    rw [e] at s4
    exact hK _ _ _ H4 (l12.trans (m4.le le3 hz)) s4
def listS (S : List Pt) (ids : List Int) : List Pt := (setL ids).map fun k => (sGet S k).getD xz
theorem store_Store_List.c {K : Option Addr → Nat → Nat → Int → Hp → Prop} (hS : StAt H s m S) (h : Sl fU H p l cc ids) (hl : l ≤ 1000000) (h0 : thereB S ids = false → ∀ H', Le H H' → K none 0 0 15 H')
    (h1 : thereB S ids = true → ∀ p' l' c' H', Le H H' → PtB H H' p' l' c' (listS S ids) → K p' l' c' 0 H') : store_Store_List.C s p l cc H K := by
  apply store_Store_List.of
  have el := h.len
  refine store_Store_has.c hS h (by omega) fun H1 l1 => bcn (fun hr => h0 hr _ l1) fun hr => ?_
  refine store_set.c (h.le l1) hl fun p2 l2 c2 H2 le2 s2 hn2 ho2 => ?_
  have e2 := s2.len
  have hlen : (setL ids).length ≤ ids.length := nodup_len (lt_nodup (setL_pw ids)) fun k hk => setL_mem.1 hk
  have l12 := l1.trans le2
  refine ⟨fun p l c t Hx => ∃ i : Nat, t = (i : Nat) ∧ i ≤ l2 ∧ Le H2 Hx ∧ PtB H2 Hx p l c ((listS S ids).take i) ∧ l = i, fun _ _ _ t _ => ((l2 : Int) - t).toNat, ⟨0, rfl, Nat.zero_le _, Le.refl _, PtB.none, rfl⟩, ?_⟩
  rintro p l c t Hx ⟨i, rfl, gi, lx, hP, hli⟩
  refine bcd (fun hlt => ?_) fun hlt => ?_
  · have hi : i < (setL ids).length := by omega
    refine slI (g := fun x => x) (s2.le lx) (fun _ => rfl) (by omega) (by omega) fun _ => ?_
    simp only [Int.toNat_natCast]
    have hSx := (hS.le l12).le lx
    obtain ⟨b, l', rfl, h2, h3, h4⟩ := hSx
    refine nil ⟨_, h2, lkpQ h3 h4 fun dp dl dc mp ml mc qp ql qc hp hl hc hx hsx => ?_⟩
    refine patch_Copy.c hx hsx fun p1 c1 p2 c2 p3 c3 p4 c4 zs H3 l3 ho => ?_
    have hlx : l ≤ 1000000 := by omega
    refine PtB.push (x := (sGet S (setL ids)[i]).getD xz) (hP.le l3) (lx.trans l3).was (ho.butN fun b hb => ?_) hsx hlx fun p5 c5 H5 hP5 hp5 m5 => chk (by omega) ⟨⟨i + 1, rfl, by omega, ?_, ?_, by omega⟩, by omega⟩
    · obtain ⟨zs', _, hB, _⟩ := hP
      exact hB.there (blkL_mem hB.zero hb)
    · refine m5.le (lx.trans l3) fun b hb => ?_
      obtain ⟨zs', _, hB, _⟩ := hP
      exact hB.fr b 0 (blkL_mem hB.zero hb)
    · have hi' : i < (listS S ids).length := by unfold listS; rw [List.length_map]; exact hi
      rw [List.take_succ_eq_append_getElem hi']
      have e : (listS S ids)[i] = (sGet S (setL ids)[i]).getD xz := List.getElem_map ..
      rw [e]; exact hP5
  · have e : (listS S ids).take i = listS S ids := List.take_of_length_le (by unfold listS; rw [List.length_map]; omega)
    rw [e] at hP
    refine h1 hr _ _ _ Hx (l12.trans lx) ?_
    obtain ⟨zs, e1, hB, hz⟩ := hP
    exact ⟨zs, e1, bBack hB l12, hz⟩
end
end Go.Proofs.YtbpbgkpkkklipaaGreat
namespace Go.Proofs.YtbpbgkpkkklipaaGreat
open Go.V
/-! ### What is known -/
def xp : Pt := ⟨1, [], [], [], []⟩
def xq : Pt := ⟨2, [1], [], [], []⟩
def xa : Pt := ⟨1, [], [[97]], [], []⟩
theorem sl1 {H : Hp} {b : Nat} {k : Int} (h : rd H b 0 = some (fU k)) : Sl fU H (some ⟨b, 0, none⟩) 1 1 [k] := ⟨rfl, Nat.le_refl _, .inr ⟨b, 0, rfl, fun i hi => by
  simp at hi; subst hi; exact h⟩⟩
theorem sl2 {H : Hp} {b : Nat} {k j : Int} (h : rd H b 0 = some (fU k)) (h' : rd H b 1 = some (fU j)) : Sl fU H (some ⟨b, 0, none⟩) 2 2 [k, j] := ⟨rfl, Nat.le_refl _, .inr ⟨b, 0, rfl, fun i hi => by
  rcases i with _ | i
  · exact h
  · have : i = 0 := by simp at hi; omega
    subst this; exact h'⟩⟩
theorem slV1 {H : Hp} {b : Nat} {k : BL} (h : rd H b 0 = some (sv k)) : Sl sv H (some ⟨b, 0, none⟩) 1 1 [k] := ⟨rfl, Nat.le_refl _, .inr ⟨b, 0, rfl, fun i hi => by
  simp at hi; subst hi; exact h⟩⟩
theorem smP {id : Int} {ds : List Int} {ms : List BL} (h : ds.length ≤ 1000) (hm : ms.length ≤ 1000) (ht : ∀ s ∈ ms, s.length ≤ 1000000) : PtSm ⟨id, ds, ms, [], []⟩ := ⟨h, hm, by simp, by simp, ht, by simp, by simp⟩
theorem ptP {H : Hp} {id : Int} {ds : List Int} {ms : List BL} {dp mp : Option Addr} {dl dc ml mc : Nat} (h : Sl fU H dp dl dc ds) (hm : Sl sv H mp ml mc ms) : PtS H id dp dl dc mp ml mc none 0 0 none 0 0 ⟨id, ds, ms, [], []⟩ := ⟨rfl, h, hm, Sl.nil, rfl, Nat.le_refl _, .inl rfl⟩
theorem D5.lr {H H' : Hp} {b : Nat} {id : Int} {dp mp qp hp : Option Addr} {dl dc ml mc ql qc hl hc : Nat} (h : D5 H b id dp dl dc mp ml mc qp ql qc hp hl hc) (hle : Lr H H') : D5 H' b id dp dl dc mp ml mc qp ql qc hp hl hc := ⟨hle _ _ _ h.1, hle _ _ _ h.2.1, hle _ _ _ h.2.2.1, hle _ _ _ h.2.2.2.1, hle _ _ _ h.2.2.2.2⟩
theorem needOf_of {S : List Pt} {ids n : List Int} (hs : n.Pairwise fun a b => Sort.ltInt a b = true) (hi : ∀ k ∈ ids, k ∈ n) (hc : ∀ k ∈ n, ∀ d ∈ depsOf S k, d ∈ n) (hr : ∀ k ∈ n, Reach S ids k) : NeedOf S ids n := by
  refine ⟨hs, fun k => ⟨hr k, fun h => ?_⟩⟩
  induction h with
  | base h => exact hi _ h
  | step _ hx hd ih => exact hc _ ih _ (by unfold depsOf; rw [hx]; exact hd)
theorem need2 : NeedOf [xp, xq] [2] [1, 2] := by
  have h2 : Reach [xp, xq] [2] 2 := .base (by decide)
  refine needOf_of (by decide) (by decide) (by decide) fun k hk => ?_
  simp at hk
  rcases hk with rfl | rfl
  · exact h2.dep (by decide)
  · exact h2
theorem cl1 : closedB [xp, xq] [2, 1] := by decide
theorem cl2 : ¬ closedB [xp, xq] [2] := by decide
section
variable {H : Hp} {K : Bool → Hp → Prop}
theorem centolaw17_known.c (hK : ∀ H', Le H H' → K true H') : centolaw17_known.C H K := by
  apply centolaw17_known.of
  refine store_New.c fun m b H1 hm hb l1 hS => ?_
  generalize hs : (some (⟨b, 0, none⟩ : Addr)) = s at hS ⊢
  intro b3 h3
  have l2 := Le.upd (c := [.int .u32 (1 : Int)]) h3
  have r3 : rd (upd H1 b3 [.int .u32 (1 : Int)]) b3 0 = some (fU 1) := by rw [rd_upd_self]; rfl
  revert l2 r3
  generalize upd H1 b3 [.int .u32 (1 : Int)] = H2
  intro l2 r3 b5 h5
  have l3 := Le.upd (c := [.int .u32 (0 : Int), .slice none 0 0, .slice none 0 0, .slice none 0 0, .slice none 0 0]) h5
  have d5 := D5.new (H := H2) (b := b5) (id := (0 : Int)) (dp := none) (dl := 0) (dc := 0) (mp := none) (ml := 0) (mc := 0) (qp := none) (ql := 0) (qc := 0) (hp := none) (hl := 0) (hc := 0)
  revert l3 d5
  generalize upd H2 b5 [.int .u32 (0 : Int), .slice none 0 0, .slice none 0 0, .slice none 0 0, .slice none 0 0] = H3
  intro l3 d5 b7 h7
  have l4 := Le.upd (c := [.int .u32 (0 : Int), .slice none 0 0, .slice none 0 0, .slice none 0 0, .slice none 0 0]) h7
  have d7 := D5.new (H := H3) (b := b7) (id := (0 : Int)) (dp := none) (dl := 0) (dc := 0) (mp := none) (ml := 0) (mc := 0) (qp := none) (ql := 0) (qc := 0) (hp := none) (hl := 0) (hc := 0)
  have hne : b5 ≠ b7 := by rintro rfl; exact d5.there h7
  replace d5 := d5.le l4
  revert l4 d7 d5
  generalize upd H3 b7 [.int .u32 (0 : Int), .slice none 0 0, .slice none 0 0, .slice none 0 0, .slice none 0 0] = H4
  intro l4 d7 d5
  refine put5 d5 fun H5 e5 m5 _ => put5 (d7.mod m5 (by simpa using Ne.symm hne)) fun H6 e7 m6 _ => ?_
  replace e5 := e5.mod m6 (by simpa using hne)
  have l6 : Le H2 H6 := m6.le (m5.le (l3.trans l4) (by simpa using h5)) (by simpa using none_of_le l3 h7)
  have hS6 := (hS.le l2).le l6
  refine bcd (fun e => absurd e (by rw [← hs]; simp)) fun _ => ?_
  have f3 := l6.rd r3
  refine D5.get e7 (store_Store_Add.c hS6 (x := xq) (ptP (sl1 f3) Sl.nil) (smP (by decide) (by decide) (by simp)) fun H7 hS7 m7 => ?_)
  rw [show sAdd [] xq = (17, []) by decide] at hS7 ⊢
  refine bcd (fun h => absurd rfl h) fun _ => ?_
  have r7 := hS6.lr m7
  refine D5.get (e5.lr r7) (store_Store_Add.c hS7 (x := xp) (ptP Sl.nil Sl.nil) (smP (by decide) (by decide) (by simp)) fun H8 hS8 m8 => ?_)
  rw [show sAdd [] xp = (0, [xp]) by decide] at hS8 ⊢
  refine bcd (fun h => absurd rfl h) fun _ => ?_
  have r8 := r7.trans (hS7.lr m8)
  refine D5.get (e7.lr r8) (store_Store_Add.c hS8 (x := xq) (ptP (sl1 (r8 _ _ _ f3)) Sl.nil) (smP (by decide) (by decide) (by simp)) fun H9 hS9 m9 => ?_)
  rw [show sAdd [xp] xq = (0, [xp, xq]) by decide] at hS9 ⊢
  refine bcd (fun h => absurd rfl h) fun _ b10 h10 => ?_
  have l10 := Le.upd (c := [.string (bs [97])]) h10
  have r10 : rd (upd H9 b10 [.string (bs [97])]) b10 0 = some (sv [97]) := by rw [rd_upd_self]; rfl
  revert l10 r10
  generalize upd H9 b10 [.string (bs [97])] = H10
  intro l10 r10
  refine store_Store_Add.c (hS9.le l10) (x := xa) (ptP Sl.nil (slV1 r10)) (smP (by decide) (by decide) (by decide)) fun H11 hS11 m11 => ?_
  rw [show sAdd [xp, xq] xa = (16, [xp, xq]) by decide] at hS11 ⊢
  refine bcd (fun h => absurd rfl h) fun _ => ?_
  refine store_Store_Add.c hS11 (x := xz) xz_pt xz_sm fun H12 hS12 m12 => ?_
  rw [show sAdd [xp, xq] xz = (10, [xp, xq]) by decide] at hS12 ⊢
  refine bcd (fun h => absurd rfl h) fun _ => ?_
  have mm : Mod [m] H6 H12 := (((m7.trans m8).trans (m9.andLe l10)).trans m11).trans m12
  have hle : ∀ {H'}, Le H12 H' → Le H H' := fun h => (mm.le ((l1.trans l2).trans l6) (by simpa using hm)).trans h
  clear mm m12 m11 m9 m8 m7 hS11 hS9 hS8 hS7 r8 r7 l10 r10 f3 hS6 l6 e7 e5 m6 m5 d7 d5 l4 l3 l2 r3
  unfold centolaw17_known.k1
  intro b13 h13
  have l13 := Le.upd (c := [.int .u32 (2 : Int)]) h13
  have r13 : rd (upd H12 b13 [.int .u32 (2 : Int)]) b13 0 = some (fU 2) := by rw [rd_upd_self]; rfl
  revert l13 r13
  generalize upd H12 b13 [.int .u32 (2 : Int)] = H13
  intro l13 r13
  refine store_Store_Need.c (hS12.le l13) (by decide) (sl1 r13) (by decide) (fun h => absurd h (by decide)) fun _ n1 p14 n14 c14 H14 l14 hn1 hs1 b15 h15 => ?_
  rw [needOf_uniq hn1 need2] at hs1
  have en := hs1.len
  have l15 := Le.upd (c := [.int .u32 (3 : Int)]) h15
  have r15 : rd (upd H14 b15 [.int .u32 (3 : Int)]) b15 0 = some (fU 3) := by rw [rd_upd_self]; rfl
  revert l15 r15
  generalize upd H14 b15 [.int .u32 (3 : Int)] = H15
  intro l15 r15
  have k15 := (l13.trans l14).trans l15
  refine store_Store_Need.c (hS12.le k15) (by decide) (sl1 r15) (by decide) (fun _ H16 l16 b17 h17 => ?_) (fun h => absurd h (by decide))
  have l17 := Le.upd (c := [.int .u32 (2 : Int)]) h17
  have r17 : rd (upd H16 b17 [.int .u32 (2 : Int)]) b17 0 = some (fU 2) := by rw [rd_upd_self]; rfl
  revert l17 r17
  generalize upd H16 b17 [.int .u32 (2 : Int)] = H17
  intro l17 r17
  have k17 := (k15.trans l16).trans l17
  refine store_Store_List.c (hS12.le k17) (sl1 r17) (by decide) (fun h => absurd h (by decide)) fun _ p18 n18 c18 H18 l18 hs18 b19 h19 => ?_
  have en18 : n18 = 1 := hs18.len
  have l19 := Le.upd (c := [.int .u32 (1 : Int), .int .u32 (2 : Int)]) h19
  have r19 : rd (upd H18 b19 [.int .u32 (1 : Int), .int .u32 (2 : Int)]) b19 0 = some (fU 1) := by rw [rd_upd_self]; rfl
  have r19' : rd (upd H18 b19 [.int .u32 (1 : Int), .int .u32 (2 : Int)]) b19 1 = some (fU 2) := by rw [rd_upd_self]; rfl
  revert l19 r19 r19'
  generalize upd H18 b19 [.int .u32 (1 : Int), .int .u32 (2 : Int)] = H19
  intro l19 r19 r19'
  have k19 := (k17.trans l18).trans l19
  refine store_Store_Users.c (hS12.le k19) (sl2 r19 r19') (by decide) fun p20 n20 c20 H20 l20 hs20 => ?_
  rw [show usersL [xp, xq] [1, 2] 1 = [2] by decide] at hs20
  have en20 := hs20.len
  have k20 := k19.trans l20
  refine store_Store_Get.c (hS12.le k20) (fun h => absurd h (by decide)) fun x p1 c1 p2 c2 p3 c3 p4 c4 H21 d1 d2 d3 d4 zs A hx l21 _ ho _ => ?_
  have hxq : x = xq := by
    have : sGet [xp, xq] 2 = some xq := by decide
    rw [this] at hx; exact (Option.some.inj hx).symm
  subst hxq
  refine D5.mk fun o H22 _ dd l22 => ?_
  have k22 := (k20.trans l21).trans l22
  subst en en18 en20
  refine bcd (fun _ => ?_) fun h => absurd rfl h
  refine bcd (fun _ => ?_) fun h => absurd rfl h
  refine bcd (fun _ => ?_) fun h => absurd rfl h
  refine bcd (fun _ => ?_) fun h => absurd rfl h
  refine bcd (fun _ => ?_) fun h => absurd rfl h
  refine bcd (fun _ => ?_) fun h => absurd rfl h
  refine slI (g := fun x => x) ((hs20.le l21).le l22) (fun _ => rfl) (by decide) (by decide) fun _ => ?_
  refine bcd (fun _ => ?_) fun h => absurd rfl h
  refine bcT (ldI_i dd.1 (bcd (fun _ => ?_) fun h => absurd rfl h))
  refine store_Store_IDs.c (hS12.le k22) (by decide) fun p23 n23 c23 H23 l23 hs23 _ _ => ?_
  have en23 : n23 = 2 := hs23.len
  subst en23
  refine bcd (fun _ b24 h24 => ?_) fun h => absurd rfl h
  have l24 := Le.upd (c := [.int .u32 (2 : Int), .int .u32 (1 : Int)]) h24
  have r24 : rd (upd H23 b24 [.int .u32 (2 : Int), .int .u32 (1 : Int)]) b24 0 = some (fU 2) := by rw [rd_upd_self]; rfl
  have r24' : rd (upd H23 b24 [.int .u32 (2 : Int), .int .u32 (1 : Int)]) b24 1 = some (fU 1) := by rw [rd_upd_self]; rfl
  revert l24 r24 r24'
  generalize upd H23 b24 [.int .u32 (2 : Int), .int .u32 (1 : Int)] = H24
  intro l24 r24 r24'
  have k24 := (k22.trans l23).trans l24
  refine store_Store_Closed.c (hS12.le k24) (by decide) (sl2 r24 r24') (by decide) fun H25 l25 => ?_
  have e25 : ∀ i : Decidable (closedB [xp, xq] [2, 1]), @decide _ i = true := fun i => @decide_eq_true _ i cl1
  rw [e25]
  refine bcT fun b26 h26 => ?_
  have l26 := Le.upd (c := [.int .u32 (2 : Int)]) h26
  have r26 : rd (upd H25 b26 [.int .u32 (2 : Int)]) b26 0 = some (fU 2) := by rw [rd_upd_self]; rfl
  revert l26 r26
  generalize upd H25 b26 [.int .u32 (2 : Int)] = H26
  intro l26 r26
  have k26 := (k24.trans l25).trans l26
  refine store_Store_Closed.c (hS12.le k26) (by decide) (sl1 r26) (by decide) fun H27 l27 => ?_
  have e27 : ∀ i : Decidable (closedB [xp, xq] [2]), @decide _ i = false := fun i => @decide_eq_false _ i cl2
  rw [e27]
  exact hK _ (hle (k26.trans l27))
end
end Go.Proofs.YtbpbgkpkkklipaaGreat
namespace Go.Proofs.YtbpbgkpkkklipaaGreat
open Go.V
/-! ### The document's store -/
theorem PdS.lr {H H' : Hp} {z : Pt × PD} (h : PdS H z) (hl : Lr H H') : PdS H' z := PtS.lr h hl
/-- The document's store: patches by their numbers; all they are was there in A. -/
def RfAt (A H : Hp) (s : Option Addr) (b : Nat) (R : List Pt) : Prop := A b = none ∧ Lr A H ∧ ∃ p l c zs, s = some ⟨b, 0, none⟩ ∧ rd H b 0 = some (.slice p l c) ∧ Sn 5 pdC H p l c zs ∧ (∀ z ∈ zs, PdS A z ∧ PtSm z.1) ∧ zs.map (·.1) = R
theorem RfAt.lr {A H H' : Hp} {s : Option Addr} {b : Nat} {R : List Pt} (h : RfAt A H s b R) (hl : Lr H H') : RfAt A H' s b R := by
  obtain ⟨h0, h0', p, l, c, zs, h1, h2, h3, h4, h5⟩ := h
  exact ⟨h0, h0'.trans hl, p, l, c, zs, h1, hl _ _ _ h2, h3.lr hl, h4, h5⟩
section
variable {H H0 : Hp} {p : Option Addr} {l c : Nat} {zs : List (Pt × PD)}
theorem rsZ (h : Sn 5 pdC H p l c zs) {k : Nat} {e : Int} (he : e = (k : Int)) (hk : k < zs.length) {F : Int → Option Addr → Nat → Nat → Option Addr → Nat → Nat → Option Addr → Nat → Nat → Option Addr → Nat → Nat → Prop}
    (hF : F zs[k].1.id zs[k].2.dp zs[k].2.dl zs[k].2.dc zs[k].2.mp zs[k].2.ml zs[k].2.mc zs[k].2.qp zs[k].2.ql zs[k].2.qc zs[k].2.hp zs[k].2.hl zs[k].2.hc) :
    IDX e l fun k => NIL p fun b o => ldI .u32 (rd H b (o + (k * 5))) fun x => ldL (rd H b ((o + (k * 5)) + 1)) fun dp dl dc => ldL (rd H b (((o + (k * 5)) + 1) + 1)) fun mp ml mc => ldL (rd H b ((((o + (k * 5)) + 1) + 1) + 1)) fun qp ql qc => ldL (rd H b (((((o + (k * 5)) + 1) + 1) + 1) + 1)) fun hp hl hc => F x dp dl dc mp ml mc qp ql qc hp hl hc := by
  have hl := h.1
  rcases h.2.2 with h0 | ⟨b, o, rfl, hr⟩
  · subst h0; simp at hk
  · exact idxN k he (by omega) (nil (ldI_i (hr k hk 0 _ rfl) (ldL_i (hr k hk 1 _ rfl) (ldL_i (hr k hk 2 _ rfl) (ldL_i (hr k hk 3 _ rfl) (ldL_i (hr k hk 4 _ rfl) hF))))))
theorem rsZi (h : Sn 5 pdC H p l c zs) {k : Nat} {e : Int} (he : e = (k : Int)) (hk : k < zs.length) {F : Int → Prop} (hF : F zs[k].1.id) :
    IDX e l fun k => NIL p fun b o => ldI .u32 (rd H b (o + (k * 5))) F := by
  have hl := h.1
  rcases h.2.2 with h0 | ⟨b, o, rfl, hr⟩
  · subst h0; simp at hk
  · exact idxN k he (by omega) (nil (ldI_i (hr k hk 0 _ rfl) hF))
theorem rsZd (h : Sn 5 pdC H p l c zs) {k : Nat} {e : Int} (he : e = (k : Int)) (hk : k < zs.length) {F : Option Addr → Nat → Nat → Prop} (hF : F zs[k].2.dp zs[k].2.dl zs[k].2.dc) :
    IDX e l fun k => NIL p fun b o => ldL (rd H b ((o + (k * 5)) + 1)) F := by
  have hl := h.1
  rcases h.2.2 with h0 | ⟨b, o, rfl, hr⟩
  · subst h0; simp at hk
  · exact idxN k he (by omega) (nil (ldL_i (hr k hk 1 _ rfl) hF))
end
section
variable {A H : Hp} {s : Option Addr} {b : Nat} {R : List Pt} {k : Int}
theorem centoref17_Store_Get.c {K : Int → Option Addr → Nat → Nat → Option Addr → Nat → Nat → Option Addr → Nat → Nat → Option Addr → Nat → Nat → Bool → Hp → Prop} (hR : RfAt A H s b R) (hl : R.length ≤ 1000)
    (h0 : sGet R k = none → ∀ H', Le H H' → K 0 none 0 0 none 0 0 none 0 0 none 0 0 false H')
    (h1 : ∀ x (d : PD) H', sGet R k = some x → Le H H' → PdS A (x, d) → Lr A H' → PtSm x → K x.id d.dp d.dl d.dc d.mp d.ml d.mc d.qp d.ql d.qc d.hp d.hl d.hc true H') : centoref17_Store_Get.C s k H K := by
  apply centoref17_Store_Get.of
  intro q hq
  have l1 := Le.upd (c := [.int .u32 (0 : Int), .slice none 0 0, .slice none 0 0, .slice none 0 0, .slice none 0 0]) hq
  have d1 := D5.new (H := H) (b := q) (id := (0 : Int)) (dp := none) (dl := 0) (dc := 0) (mp := none) (ml := 0) (mc := 0) (qp := none) (ql := 0) (qc := 0) (hp := none) (hl := 0) (hc := 0)
  revert l1 d1
  generalize upd H q [.int .u32 (0 : Int), .slice none 0 0, .slice none 0 0, .slice none 0 0, .slice none 0 0] = H1
  intro l1 d1
  obtain ⟨hb0, hlr, p, l, c, zs, rfl, h2, h3, h4, rfl⟩ := hR
  have h3' := h3.le l1
  have e3 := h3.1
  rw [List.length_map] at hl
  refine ⟨fun t Hx => ∃ i : Nat, t = (i : Nat) ∧ i ≤ l ∧ Hx = H1 ∧ sGet ((zs.map (·.1)).take i) k = none, fun t _ => ((l : Int) - t).toNat, ⟨0, rfl, Nat.zero_le _, rfl, rfl⟩, ?_⟩
  rintro t Hx ⟨i, rfl, gi, rfl, hn⟩
  refine nil (ldL_i (l1.rd h2) (bcd (fun hlt => ?_) fun hlt => ?_))
  · have hi : i < zs.length := by omega
    have hi' : i < (zs.map (·.1)).length := by rw [List.length_map]; exact hi
    have ei : (zs.map (·.1))[i] = zs[i].1 := List.getElem_map ..
    refine nil (ldL_i (l1.rd h2) (rsZi h3' rfl hi (bcd (fun he => ?_) fun he => ?_)))
    · refine nil (ldL_i (l1.rd h2) (rsZ h3' rfl hi (put5 d1 fun H2 d2 m2 _ => ?_)))
      have l2 : Le H H2 := m2.le l1 (by simpa using hq)
      refine D5.get d2 (h1 zs[i].1 zs[i].2 H2 ?_ l2 (h4 zs[i] (List.getElem_mem hi)).1 (hlr.trans l2.lr) (h4 zs[i] (List.getElem_mem hi)).2)
      have e : zs.map (·.1) = (zs.map (·.1)).take i ++ zs[i].1 :: (zs.map (·.1)).drop (i + 1) := by rw [← ei, ← List.drop_eq_getElem_cons hi', List.take_append_drop]
      rw [e]
      unfold sGet at hn ⊢
      rw [List.find?_append, hn]
      simp [he]
    · refine chk (by omega) ⟨⟨i + 1, by omega, by omega, by trivial, ?_⟩, by first | omega | (dsimp only; omega)⟩
      rw [List.take_succ_eq_append_getElem hi', sGet_snoc, hn]
      simp only
      rw [if_neg (by rw [ei]; exact he)]
  · rw [List.take_of_length_le (by rw [List.length_map]; omega)] at hn
    refine put5 d1 fun H2 d2 m2 _ => ?_
    exact D5.get d2 (h0 hn H2 (m2.le l1 (by simpa using hq)))
theorem centoref17_Store_IDs.c {K : Option Addr → Nat → Nat → Hp → Prop} (hR : RfAt A H s b R) (hl : R.length ≤ 1000) (hK : ∀ p l c H', Le H H' → Sl fU H' p l c (R.map (·.id)) → K p l c H') : centoref17_Store_IDs.C s H K := by
  apply centoref17_Store_IDs.of
  obtain ⟨hb0, hlr, p, l, c, zs, rfl, h2, h3, h4, rfl⟩ := hR
  have e3 := h3.1
  rw [List.length_map] at hl
  refine ⟨fun p l c t Hx => ∃ i : Nat, t = (i : Nat) ∧ i ≤ zs.length ∧ Le H Hx ∧ Buf 1 H Hx p l c (((zs.map (·.1.id)).take i).map fU), fun _ _ _ t _ => ((zs.length : Int) - t).toNat, ⟨0, rfl, Nat.zero_le _, Le.refl _, Buf.none⟩, ?_⟩
  rintro p1 l1 c1 t Hx ⟨i, rfl, gi, lx, hB⟩
  have e1 : l1 = i := by
    have := hB.1
    rw [List.length_map, List.length_take, List.length_map] at this
    omega
  refine nil (ldL_i (lx.rd h2) (bcd (fun hlt => ?_) fun hlt => ?_))
  · have hi : i < zs.length := by omega
    refine nil (ldL_i (lx.rd h2) (rsZi (h3.le lx) rfl hi ?_))
    refine hB.pushS (te := te_uint32) rfl (by decide) rfl (by decide) rfl rfl (by simp [te_uint32]; omega) (fun p' c' H2 hB2 _ m2 => ?_) lx.was
    refine chk (by omega) ⟨⟨i + 1, by omega, by omega, m2.le lx fun b hb => hB.fr b 0 (blkL_mem hB.zero hb), ?_⟩, by first | omega | (dsimp only; omega)⟩
    have hi' : i < (zs.map (·.1.id)).length := by rw [List.length_map]; exact hi
    rw [List.take_succ_eq_append_getElem hi', List.map_append, List.getElem_map]
    exact hB2
  · rw [List.take_of_length_le (by rw [List.length_map]; omega)] at hB
    refine hK _ _ _ Hx lx ?_
    have := hB.sl
    rwa [List.map_map]
end
end Go.Proofs.YtbpbgkpkkklipaaGreat
namespace Go.Proofs.YtbpbgkpkkklipaaGreat
open Go.V
/-! ### A patch more in the document's store -/
def rIns (R : List Pt) (x : Pt) : List Pt := R.takeWhile (fun y => decide (y.id < x.id)) ++ x :: R.dropWhile fun y => decide (y.id < x.id)
def rAdd (R : List Pt) (x : Pt) : Int × List Pt :=
  if isB x = false then (10, R) else
  match sGet R x.id with
  | some y => (if x = y then 0 else 16, R)
  | none => if (x.deps.all fun d => (sGet R d).isSome) = false then (17, R) else if R.length = 60 then (11, R) else (0, rIns R x)
theorem pdC_cell (zs : List (Pt × PD)) : (zs.flatMap pdC).all isCell = true := by
  rw [List.all_flatMap, List.all_eq_true]
  intro z _; rfl
theorem pdC_flen (zs : List (Pt × PD)) : (zs.flatMap pdC).length = zs.length * 5 := by
  induction zs with
  | nil => rfl
  | cons z zs ih => rw [List.flatMap_cons, List.length_append, ih, pdC_len, List.length_cons]; omega
/-- All that can be read stays, but slices at blocks' heads. -/
def Lw (H H' : Hp) : Prop := ∀ bb oo v, rd H bb oo = some v → (oo = 0 → ∀ p l c, v ≠ .slice p l c) → rd H' bb oo = some v
theorem Lr.lw {H H' : Hp} (h : Lr H H') : Lw H H' := fun bb oo v e _ => h bb oo v e
section
variable {A H : Hp} {s : Option Addr} {b : Nat} {R : List Pt}
theorem addTail {q i l c : Nat} {p : Option Addr} {z : Pt × PD} {zs : List (Pt × PD)} {F : Option Addr → Nat → Nat → Hp → Prop} (hb : rd H b 0 = some (.slice p l c)) (h : Sn 5 pdC H p l c zs) (hi : i ≤ l) (hl : l ≤ 1000)
    (d : D5 H q z.1.id z.2.dp z.2.dl z.2.dc z.2.mp z.2.ml z.2.mc z.2.qp z.2.ql z.2.qc z.2.hp z.2.hl z.2.hc) (hF : ∀ p2 l2 c2 H5, Le H H5 → Buf 5 H H5 p2 l2 c2 ((zs.take i ++ [z]).flatMap pdC) → l2 = i + 1 → F p2 l2 c2 H5) :
    BND none (some ((i : Nat) : Int)) l c fun j k => ldI .u32 (rd H q 0) fun x202 => ldL (rd H q 1) fun xp203 xl204 xc205 => ldL (rd H q 2) fun xp206 xl207 xc208 => ldL (rd H q 3) fun xp209 xl210 xc211 => ldL (rd H q 4) fun xp212 xl213 xc214 =>
      (APP H te_api_Patch none 0 0 (.slice (movA p j 5 c) (k - j) (c - j)) fun xp215 xl216 xc217 Hx218 => rd Hx218 q 0 = some (.int .u32 x202) ∧ (rd Hx218 q 1 = some (.slice xp203 xl204 xc205) ∧ (rd Hx218 q 2 = some (.slice xp206 xl207 xc208) ∧ (rd Hx218 q 3 = some (.slice xp209 xl210 xc211) ∧ (rd Hx218 q 4 = some (.slice xp212 xl213 xc214) ∧ (NEW Hx218 ([.int .u32 x202, .slice xp203 xl204 xc205, .slice xp206 xl207 xc208, .slice xp209 xl210 xc211, .slice xp212 xl213 xc214]) fun bq219 Hx220 => APP Hx220 te_api_Patch xp215 xl216 xc217 (.slice (some ⟨bq219, 0, none⟩) 1 1) F)))))) ∧
      (NEW H ([.int .u32 x202, .slice xp203 xl204 xc205, .slice xp206 xl207 xc208, .slice xp209 xl210 xc211, .slice xp212 xl213 xc214]) fun bq247 Hx248 => rd Hx248 b 0 = some (.slice p l c) ∧ (APP Hx248 te_api_Patch none 0 0 (.slice (movA p j 5 c) (k - j) (c - j)) fun xp249 xl250 xc251 Hx252 => APP Hx252 te_api_Patch xp249 xl250 xc251 (.slice (some ⟨bq247, 0, none⟩) 1 1) F)) := by
  have el := h.1
  have hc := h.2.1
  refine bnd01 i rfl (by omega) (D5.get d ⟨?_, fun b2 hb2 => ?_⟩)
  · have hL := h.slice (j := 0) (k := i) (by omega) (by omega)
    rw [List.drop_zero] at hL
    refine (Buf.none (s := 5) (A := H) (H := H)).appS (n := i - 0) (new := (zs.take i).flatMap pdC) rfl (by decide) rfl (by decide) (by rw [pdC_flen, List.length_take]; omega) (pdC_cell _) (by simp [te_api_Patch]; omega) (fun G hG => sn_src (by decide) pdC_len hL G hG) (fun p1 c1 H1 hB1 _ m1 => ?_) (Le.refl H).was
    have l1 : Le H H1 := m1.le (Le.refl _) (by simp [blkL])
    have d1 := d.le l1
    refine ⟨d1.1, d1.2.1, d1.2.2.1, d1.2.2.2.1, d1.2.2.2.2, ?_⟩
    refine hB1.pushS (te := te_api_Patch) (new := pdC z) rfl (by decide) rfl (by decide) rfl rfl (by simp [te_api_Patch]; omega) (fun p2 c2 H2 hB2 _ m2 => hF p2 _ c2 H2 (m2.le l1 fun b hb => hB1.fr b 0 (blkL_mem hB1.zero hb)) ?_ (by omega)) l1.was
    rw [List.flatMap_append]
    simpa using hB2
  · have l0 := Le.upd (c := pdC z) hb2
    have r0 : upd H b2 (pdC z) b2 = some (pdC z) := by simp [upd]
    revert l0 r0
    show Le H (upd H b2 (pdC z)) → _ → rd (upd H b2 (pdC z)) b 0 = _ ∧ APP (upd H b2 (pdC z)) _ _ _ _ _ _
    generalize upd H b2 (pdC z) = H0
    intro l0 r0
    refine ⟨l0.rd hb, ?_⟩
    have hL := (h.le l0).slice (j := 0) (k := i) (by omega) (by omega)
    rw [List.drop_zero] at hL
    refine (Buf.none (s := 5) (A := H) (H := H0)).appS (n := i - 0) (new := (zs.take i).flatMap pdC) rfl (by decide) rfl (by decide) (by rw [pdC_flen, List.length_take]; omega) (pdC_cell _) (by simp [te_api_Patch]; omega) (fun G hG => sn_src (by decide) pdC_len hL G hG) (fun p1 c1 H1 hB1 _ m1 => ?_) l0.was
    have l1 : Le H0 H1 := m1.le (Le.refl _) (by simp [blkL])
    refine hB1.pushAt (te := te_api_Patch) (new := pdC z) (l1 _ _ r0) rfl (by decide) rfl (by decide) rfl rfl (by simp [te_api_Patch]; omega) (fun p2 c2 H2 hB2 _ m2 => hF p2 _ c2 H2 (m2.le (l0.trans l1) fun b hb => hB1.fr b 0 (blkL_mem hB1.zero hb)) ?_ (by omega)) (l0.trans l1)
    rw [List.flatMap_append]
    simpa using hB2
theorem centoref17_Store_Add.c {id : Int} {dp mp qp hp : Option Addr} {dl dc ml mc ql qc hl hc : Nat} {x : Pt} {K : Int → Hp → Prop} (hR : RfAt A H s b R) (hRl : R.length ≤ 1000) (h : PtS A id dp dl dc mp ml mc qp ql qc hp hl hc x) (hs : PtSm x)
    (hK : ∀ H', RfAt A H' s b (rAdd R x).2 → Mod [b] H H' → Lw H H' → K (rAdd R x).1 H') : centoref17_Store_Add.C s id dp dl dc mp ml mc qp ql qc hp hl hc H K := by
  apply centoref17_Store_Add.of
  intro q hq
  have l1 := Le.upd (c := [.int .u32 id, .slice dp dl dc, .slice mp ml mc, .slice qp ql qc, .slice hp hl hc]) hq
  have d := D5.new (H := H) (b := q) (id := id) (dp := dp) (dl := dl) (dc := dc) (mp := mp) (ml := ml) (mc := mc) (qp := qp) (ql := ql) (qc := qc) (hp := hp) (hl := hl) (hc := hc)
  revert l1 d
  generalize upd H q [.int .u32 id, .slice dp dl dc, .slice mp ml mc, .slice qp ql qc, .slice hp hl hc] = H1
  intro l1 d
  have hid := h.1
  subst hid
  have hsd := hs.deps
  have hdl := h.2.1.len
  have hAb := hR.1
  have hAH := hR.2.1
  refine D5.get d (centoref12_Is.c (h.lr (hAH.trans l1.lr)) hs fun H2 l2 => bcn (fun hr => ?_) fun hr => ?_)
  · have e : rAdd R x = (10, R) := by unfold rAdd; rw [if_pos hr]
    rw [e] at hK
    exact hK _ (hR.lr (l1.trans l2).lr) (l1.trans l2).mod (Lr.lw (l1.trans l2).lr)
  have l12 := l1.trans l2
  refine ldI_i (d.le l2).1 (centoref17_Store_Get.c (hR.lr l12.lr) hRl (fun hg H3 l3 => D5.mk fun o H4 _ ho l4 => bcF ?_) fun y dy H3 hg l3 hy hy' hsy => D5.mk fun o H4 _ ho l4 => bcT ?_)
  · have l14 := (l12.trans l3).trans l4
    have d4 := ((d.le l2).le l3).le l4
    refine ⟨fun t Hx => ∃ i : Nat, t = (i : Nat) ∧ i ≤ x.deps.length ∧ Le H4 Hx ∧ ∀ k ∈ x.deps.take i, (sGet R k).isSome = true, fun t _ => ((dl : Int) - t).toNat, ⟨0, rfl, Nat.zero_le _, Le.refl _, by simp⟩, ?_⟩
    rintro t Hx ⟨i, rfl, gi, lx, hall⟩
    have l1x := l14.trans lx
    refine ldL_i (d4.le lx).2.1 (bcd (fun hlt => ?_) fun hlt => ?_)
    · have hi : i < x.deps.length := by omega
      refine ldL_i (d4.le lx).2.1 (slI (g := fun x => x) (h.2.1.lr (hAH.trans l1x.lr)) (fun _ => rfl) (by omega) (by omega) fun _ => ?_)
      simp only [Int.toNat_natCast]
      refine centoref17_Store_Get.c (hR.lr l1x.lr) hRl (fun hn H5 l5 => D5.mk fun o2 H6 _ _ l6 => bcT ?_) fun y dy H5 hg2 l5 _ _ _ => D5.mk fun o2 H6 _ _ l6 => bcF (chk (by omega) ⟨⟨i + 1, by omega, by omega, (lx.trans l5).trans l6, fun k hk => ?_⟩, by first | omega | (dsimp only; omega)⟩)
      · have e : rAdd R x = (17, R) := by
          unfold rAdd
          rw [hr, if_neg (by decide), hg]
          simp only
          rw [if_pos (by rw [List.all_eq_false]; exact ⟨_, List.getElem_mem hi, by rw [hn]; decide⟩)]
        rw [e] at hK
        exact hK _ (hR.lr ((l1x.trans l5).trans l6).lr) ((l1x.trans l5).trans l6).mod (Lr.lw ((l1x.trans l5).trans l6).lr)
      · rw [List.take_succ_eq_append_getElem hi, List.mem_append, List.mem_singleton] at hk
        rcases hk with hk | rfl
        · exact hall k hk
        · rw [hg2]; rfl
    · rw [List.take_of_length_le (by omega)] at hall
      have hdeps : (x.deps.all fun d => (sGet R d).isSome) = true := List.all_eq_true.2 hall
      have hRx := hR.lr l1x.lr
      have dx := d4.le lx
      have hbq : b ≠ q := by
        rintro rfl
        obtain ⟨_, _, p, l, c, zs, _, h2, _⟩ := hR
        exact ne_none_of_rd h2 hq
      obtain ⟨_, hAx, p, l, c, zs, rfl, h2, h3, h4, hz⟩ := hRx
      have e3 : l = R.length := by rw [← hz, List.length_map]; exact h3.1
      have e3' := h3.1
      refine nil (ldL_i h2 (bcd (fun h60 => ?_) fun h60 => ?_))
      · have e : rAdd R x = (11, R) := by unfold rAdd; rw [hr, if_neg (by decide), hg]; simp only; rw [hdeps, if_neg (by decide), if_pos (by omega)]
        rw [e] at hK
        exact hK _ (hR.lr l1x.lr) l1x.mod (Lr.lw l1x.lr)
      have e : rAdd R x = (0, rIns R x) := by unfold rAdd; rw [hr, if_neg (by decide), hg]; simp only; rw [hdeps, if_neg (by decide), if_neg (by omega)]
      rw [e] at hK
      have fin : ∀ (i : Nat), i ≤ l → rIns R x = R.take i ++ x :: R.drop i → ∀ p2 l2 c2 H5, Le Hx H5 → Buf 5 Hx H5 p2 l2 c2 ((zs.take i ++ [(x, (⟨dp, dl, dc, mp, ml, mc, qp, ql, qc, hp, hl, hc⟩ : PD))]).flatMap pdC) → l2 = i + 1 →
          NIL (some (⟨b, 0, none⟩ : Addr)) fun bq229 oq230 => ldL (rd H5 bq229 oq230) fun xp231 xl232 xc233 => BND (some ((i : Nat) : Int)) none xl232 xc233 fun j234 k235 => APP H5 te_api_Patch p2 l2 c2 (.slice (movA xp231 j234 5 xc233) (k235 - j234) (xc233 - j234)) fun xp236 xl237 xc238 Hx239 => NIL (some (⟨b, 0, none⟩ : Addr)) fun bq240 oq241 => ST Hx239 bq240 oq241 (.slice xp236 xl237 xc238) fun Hx242 => K (0 : Int) Hx242 := fun i hi hins p2 l2 c2 H5 l5 hB2 e2 => by
        refine nil (ldL_i (l5.rd h2) (bnd10 i rfl (by omega) ?_))
        have hR5 := (h3.le l5).slice (j := i) (k := l) (by omega) (by omega)
        refine hB2.appS (n := l - i) (new := ((zs.take l).drop i).flatMap pdC) rfl (by decide) rfl (by decide) (by rw [pdC_flen, List.length_drop, List.length_take]; omega) (pdC_cell _) (by simp [te_api_Patch]; omega) (fun G hG => sn_src (by decide) pdC_len hR5 G hG) (fun p6 c6 H6 hB6 _ m6 => ?_) l5.was
        have l6 : Le Hx H6 := m6.le l5 fun b hb => hB2.fr b 0 (blkL_mem hB2.zero hb)
        refine nil (st (l6.rd h2) (hK _ ?_ ((l1x.trans l6).mod.trans (Mod.refl.wr (.inl (by simp)))) (fun bb oo vv e hv => ?_)))
        rotate_left
        · have e6 := (l1x.trans l6).rd e
          by_cases hbb : bb = b
          · subst hbb
            by_cases ho : oo = 0
            · subst ho
              have := l6.rd h2
              rw [this] at e6
              exact absurd (Option.some.inj e6).symm (hv rfl _ _ _)
            · rw [rd_wr_off ho]; exact e6
          · rw [rd_wr_ne hbb]; exact e6
        have mw : Mod [b] H6 (wr H6 b 0 (.slice p6 (l2 + (l - i)) c6)) := Mod.refl.wr (.inl (by simp))
        have hB7 : Buf 5 Hx (wr H6 b 0 (.slice p6 (l2 + (l - i)) c6)) p6 (l2 + (l - i)) c6 _ := hB6.mod mw fun b' o e hb' => by
          simp at hb'; subst hb'
          exact ne_none_of_rd h2 (hB6.fr b' o e)
        have hzz : (zs.take i ++ [(x, (⟨dp, dl, dc, mp, ml, mc, qp, ql, qc, hp, hl, hc⟩ : PD))]) ++ (zs.take l).drop i = zs.take i ++ (x, (⟨dp, dl, dc, mp, ml, mc, qp, ql, qc, hp, hl, hc⟩ : PD)) :: zs.drop i := by
          rw [List.take_of_length_le (by omega : zs.length ≤ l)]; simp
        rw [← List.flatMap_append, hzz] at hB7
        have hAw : Lr A (wr H6 b 0 (.slice p6 (l2 + (l - i)) c6)) := fun bb oo vv e => by
          rw [rd_wr_ne (by rintro rfl; unfold rd at e; rw [hAb] at e; cases e)]
          exact (hAx.trans l6.lr) _ _ _ e
        refine ⟨hAb, hAw, p6, _, c6, _, rfl, rd_wr_self (l6.rd h2), hB7.sn pdC_len (by decide), fun z hz' => ?_, ?_⟩
        · rcases List.mem_append.1 hz' with hz' | hz'
          · exact h4 z (List.mem_of_mem_take hz')
          · rcases List.mem_cons.1 hz' with rfl | hz'
            · exact ⟨h, hs⟩
            · exact h4 z (List.mem_of_mem_drop hz')
        · rw [hins, List.map_append, List.map_cons, List.map_take, List.map_drop, hz]
      refine ⟨fun t Hy => ∃ i : Nat, t = (i : Nat) ∧ i ≤ l ∧ Hy = Hx ∧ ∀ y ∈ R.take i, decide (y.id < x.id) = true, fun t _ => ((l : Int) - t).toNat, ⟨0, rfl, Nat.zero_le _, rfl, by simp⟩, ?_⟩
      rintro t Hy ⟨i, rfl, gi, rfl, hlt'⟩
      refine nil (ldL_i h2 (bcd (fun hlt => ?_) fun hlt => ?_))
      · have hi : i < zs.length := by omega
        have hiR : i < R.length := by omega
        have ei : R[i] = zs[i].1 := by subst hz; exact List.getElem_map ..
        refine nil (ldL_i h2 (rsZi h3 rfl hi (ldI_i dx.1 (bcd (fun hle => ?_) fun hle => ?_))))
        · refine chk (by omega) ⟨⟨i + 1, by omega, by omega, by trivial, fun y hy => ?_⟩, by first | omega | (dsimp only; omega)⟩
          rw [List.take_succ_eq_append_getElem hiR, List.mem_append, List.mem_singleton] at hy
          rcases hy with hy | rfl
          · exact hlt' y hy
          · rw [ei]; exact decide_eq_true hle
        · obtain ⟨e1, e2⟩ := cutWhile hlt' (.inr ⟨hiR, by rw [ei]; exact decide_eq_false hle⟩)
          refine nil (ldL_i h2 (addTail (z := (x, ⟨dp, dl, dc, mp, ml, mc, qp, ql, qc, hp, hl, hc⟩)) h2 h3 gi (by omega) dx fun p2 l2 c2 H5 l5 hB2 e5 => ?_))
          unfold centoref17_Store_Add.k1
          exact fin i gi (by unfold rIns; rw [e1, e2]) p2 l2 c2 H5 l5 hB2 e5
      · obtain ⟨e1, e2⟩ := cutWhile (i := i) hlt' (.inl (by omega))
        refine nil (ldL_i h2 (addTail (z := (x, ⟨dp, dl, dc, mp, ml, mc, qp, ql, qc, hp, hl, hc⟩)) h2 h3 gi (by omega) dx fun p2 l2 c2 H5 l5 hB2 e5 => ?_))
        unfold centoref17_Store_Add.k2
        exact fin i gi (by unfold rIns; rw [e1, e2]) p2 l2 c2 H5 l5 hB2 e5
  · have l14 := (l12.trans l3).trans l4
    have d4 := ((d.le l2).le l3).le l4
    refine D5.get d4 (D5.get ho (centoref12_Same.c (h.lr (hAH.trans l14.lr)) (PtS.lr hy (hy'.trans l4.lr)) hs fun H5 l5 => bcd (fun hh => ?_) fun hh => ?_))
    · have e : rAdd R x = (0, R) := by unfold rAdd; rw [hr, if_neg (by decide), hg]; simp only; rw [if_pos hh]
      rw [e] at hK
      exact hK _ (hR.lr (l14.trans l5).lr) (l14.trans l5).mod (Lr.lw (l14.trans l5).lr)
    · have e : rAdd R x = (16, R) := by unfold rAdd; rw [hr, if_neg (by decide), hg]; simp only; rw [if_neg hh]
      rw [e] at hK
      exact hK _ (hR.lr (l14.trans l5).lr) (l14.trans l5).mod (Lr.lw (l14.trans l5).lr)
end
end Go.Proofs.YtbpbgkpkkklipaaGreat
namespace Go.Proofs.YtbpbgkpkkklipaaGreat
open Go.V
/-! ### What the document's store needs -/
/-- Each stands behind all that it needs. -/
def Ranked (R : List Pt) (rank : Int → Nat) : Prop := (∀ k x d, sGet R k = some x → d ∈ x.deps → rank d < rank k) ∧ ∀ k, (sGet R k).isSome = true → rank k < R.length
section
variable {A H : Hp} {s : Option Addr} {b : Nat} {R : List Pt} {p : Option Addr} {l cc : Nat} {ids : List Int}
theorem putL_sort {ys : List Int} {v : Int} (h : ys.Pairwise fun a b => Sort.ltInt a b = true) : (putL Sort.ltInt ys v).Pairwise fun a b => Sort.ltInt a b = true := putL_pw ltInt_tr (fun _ _ => ltInt_anti) h
theorem centoref17_Store_Need.c {rank : Int → Nat} {K : Option Addr → Nat → Nat → Int → Hp → Prop} (hR : RfAt A H s b R) (hRl : R.length ≤ 1000) (hn : (R.map (·.id)).Nodup) (hcl : ∀ x ∈ R, ∀ d ∈ x.deps, (sGet R d).isSome = true) (hrk : Ranked R rank) (h : Sl fU H p l cc ids) (hl : l ≤ 1000)
    (h0 : thereB R ids = false → ∀ H', Le H H' → K none 0 0 15 H') (h1 : thereB R ids = true → ∀ n p' l' c' H', Le H H' → NeedOf R ids n → Sl fU H' p' l' c' n → K p' l' c' 0 H') : centoref17_Store_Need.C s p l cc H K := by
  apply centoref17_Store_Need.of
  have el := h.len
  have hsm : ∀ x ∈ R, PtSm x := by
    obtain ⟨_, _, _, _, _, zs, _, _, _, h4, rfl⟩ := hR
    intro x hx
    obtain ⟨z, hz, rfl⟩ := List.mem_map.1 hx
    exact (h4 z hz).2
  have hgood : ∀ ys : List Int, ys.Pairwise (fun a b => Sort.ltInt a b = true) → (∀ k ∈ ys, (sGet R k).isSome = true) → ys.length ≤ 1000 := fun ys hp hy => by
    have := nodup_len (lt_nodup hp) (zs := R.map (·.id)) fun k hk => by
      have := hy k hk
      rw [sGet_is, decide_eq_true_eq] at this; exact this
    rw [List.length_map] at this
    omega
  refine ⟨fun p l c t Hx => ∃ (i : Nat) (ys : List Int), t = (i : Nat) ∧ i ≤ ids.length ∧ Le H Hx ∧ Sl fU Hx p l c ys ∧ ys.Pairwise (fun a b => Sort.ltInt a b = true) ∧ (∀ k, k ∈ ys ↔ k ∈ ids.take i) ∧ ∀ k ∈ ids.take i, (sGet R k).isSome = true, fun _ _ _ t _ => ((ids.length : Int) - t).toNat, ⟨0, [], rfl, Nat.zero_le _, Le.refl _, Sl.nil, by simp, by simp, by simp⟩, ?_⟩
  rintro p1 l1 c1 t Hx ⟨i, ys, rfl, gi, lx, hs, hpw, hm, hthere⟩
  have eys := hs.len
  have hyl : ys.length ≤ 1000 := hgood ys hpw fun k hk => hthere k ((hm k).1 hk)
  refine bcd (fun hlt => ?_) fun hlt => ?_
  · have hi : i < ids.length := by omega
    refine slI (g := fun x => x) (h.le lx) (fun _ => rfl) (by omega) (by omega) fun _ => ?_
    simp only [Int.toNat_natCast]
    refine centoref17_Store_Get.c (hR.lr lx.lr) hRl (fun hg H2 l2 => D5.mk fun o H3 _ _ l3 => bcT ?_) fun y dy H2 hg l2 _ _ _ => D5.mk fun o H3 _ _ l3 => bcF ?_
    · refine h0 ?_ _ ((lx.trans l2).trans l3)
      unfold thereB
      rw [List.all_eq_false]
      exact ⟨_, List.getElem_mem hi, by rw [hg]; decide⟩
    · have l13 := (lx.trans l2).trans l3
      refine slI (g := fun x => x) (h.le l13) (fun _ => rfl) (by omega) (by omega) fun _ => ?_
      simp only [Int.toNat_natCast]
      refine centoref12_Put.c ((hs.le l2).le l3) (by omega) fun p4 l4 c4 H4 le4 hs4 => chk (by omega) ⟨⟨i + 1, _, by omega, by omega, l13.trans le4, hs4, putL_sort hpw, fun k => ?_, fun k hk => ?_⟩, by first | omega | (dsimp only; omega)⟩
      · rw [putL_mem, hm, List.take_succ_eq_append_getElem hi, List.mem_append, List.mem_singleton]
      · rw [List.take_succ_eq_append_getElem hi, List.mem_append, List.mem_singleton] at hk
        rcases hk with hk | rfl
        · exact hthere k hk
        · rw [hg]; rfl
  rw [List.take_of_length_le (by omega)] at hm hthere
  have hth : thereB R ids = true := List.all_eq_true.2 hthere
  have hreach : ∀ {k}, Reach R ids k → (sGet R k).isSome = true := fun hr => by
    cases hr with
    | base hk => exact hthere _ hk
    | step _ hx hd => exact hcl _ (sGet_some hx).1 _ hd
  have hyr : ∀ k ∈ ys, Reach R ids k := fun k hk => .base ((hm k).1 hk)
  have hRlen : ∀ {Hz}, Le H Hz → ∃ pb lb cb zs, s = some ⟨b, 0, none⟩ ∧ rd Hz b 0 = some (.slice pb lb cb) ∧ Sn 5 pdC Hz pb lb cb zs ∧ (∀ z ∈ zs, PdS A z ∧ PtSm z.1) ∧ zs.map (·.1) = R ∧ lb = R.length ∧ Lr A Hz := fun lz => by
    obtain ⟨_, hlr, pb, lb, cb, zs, e1, e2, e3, e4, e5⟩ := hR
    exact ⟨pb, lb, cb, zs, e1, lz.rd e2, e3.le lz, e4, e5, by rw [← e5, List.length_map]; exact e3.1, hlr.trans lz.lr⟩
  -- rounds
  refine ⟨fun p l c t Hx => ∃ (n : Nat) (ys : List Int), t = (n : Nat) ∧ n ≤ R.length + 1 ∧ Le H Hx ∧ Sl fU Hx p l c ys ∧ ys.Pairwise (fun a b => Sort.ltInt a b = true) ∧ (∀ k ∈ ids, k ∈ ys) ∧ (∀ k ∈ ys, Reach R ids k) ∧ ∀ k, Reach R ids k → R.length ≤ rank k + n → k ∈ ys, fun _ _ _ t _ => ((R.length : Int) + 1 - t).toNat,
    ⟨0, ys, rfl, by omega, lx, hs, hpw, fun k hk => (hm k).2 hk, hyr, fun k hk hr => absurd (hrk.2 k (hreach hk)) (by omega)⟩, ?_⟩
  clear hs hpw hm hyr eys hyl hlt gi
  rintro p2 l2 c2 t Hy ⟨n, ys2, rfl, gn, ly, hs2, hp2, hi2, hr2, hk2⟩
  obtain ⟨pb, lb, cb, zs, hsb, e2, e3, e4, e5, e6, hlr⟩ := hRlen ly
  rw [hsb]
  rw [hsb] at hR hRlen
  refine nil (ldL_i e2 (bcd (fun hle => ?_) fun hle => ?_))
  · -- one round
    refine ⟨fun p l c t Hx => ∃ (i : Nat) (ys : List Int), t = (i : Nat) ∧ i ≤ R.length ∧ Le H Hx ∧ Sl fU Hx p l c ys ∧ ys.Pairwise (fun a b => Sort.ltInt a b = true) ∧ (∀ k ∈ ys2, k ∈ ys) ∧ (∀ k ∈ ys, Reach R ids k) ∧ ∀ x ∈ R.take i, x.id ∈ ys2 → ∀ d ∈ x.deps, d ∈ ys, fun _ _ _ t _ => ((R.length : Int) - t).toNat,
      ⟨0, ys2, rfl, Nat.zero_le _, ly, hs2, hp2, fun k hk => hk, hr2, by simp⟩, ?_⟩
    rintro p3 l3 c3 t Hz ⟨i, ys3, rfl, gi, lz, hs3, hp3, hi3, hr3, hk3⟩
    have hyl3 : ys3.length ≤ 1000 := hgood ys3 hp3 fun k hk => hreach (hr3 k hk)
    have ey3 := hs3.len
    obtain ⟨pc, lc', cc', zt, hsc, f2, f3, f4, f5, f6, hlrz⟩ := hRlen lz
    refine nil (ldL_i f2 (bcd (fun hlt => ?_) fun hlt => ?_))
    · have hi : i < zt.length := by have := f3.1; omega
      have hiR : i < R.length := by omega
      have ei : R[i] = zt[i].1 := by subst f5; exact List.getElem_map ..
      refine nil (ldL_i f2 (rsZi f3 rfl hi (centoref12_Has.c hs3 (by omega) (bcn (fun hin => ?_) fun hin => ?_))))
      · refine chk (by omega) ⟨⟨i + 1, ys3, by omega, by omega, lz, hs3, hp3, hi3, hr3, fun x hx hx2 => ?_⟩, by first | omega | (dsimp only; omega)⟩
        rw [List.take_succ_eq_append_getElem hiR, List.mem_append, List.mem_singleton] at hx
        rcases hx with hx | rfl
        · exact hk3 x hx hx2
        · have h1 := of_decide_eq_false hin
          rw [← ei] at h1
          exact absurd (hi3 _ hx2) h1
      · have hin' : R[i].id ∈ ys3 := by rw [ei]; exact of_decide_eq_true hin
        have hget : sGet R R[i].id = some R[i] := sGet_of hn (List.getElem_mem hiR)
        have hdl : zt[i].2.dl = R[i].deps.length := by rw [ei]; exact (f4 _ (List.getElem_mem hi)).1.2.1.len
        have hdl1 : R[i].deps.length ≤ 1000 := (hsm _ (List.getElem_mem hiR)).deps
        refine ⟨fun p l c t Hx => ∃ (j : Nat) (ys : List Int), t = (j : Nat) ∧ j ≤ R[i].deps.length ∧ Le H Hx ∧ Sl fU Hx p l c ys ∧ ys.Pairwise (fun a b => Sort.ltInt a b = true) ∧ (∀ k ∈ ys3, k ∈ ys) ∧ (∀ k ∈ ys, Reach R ids k) ∧ ∀ d ∈ R[i].deps.take j, d ∈ ys, fun _ _ _ t _ => ((R[i].deps.length : Int) - t).toNat,
          ⟨0, ys3, rfl, Nat.zero_le _, lz, hs3, hp3, fun k hk => hk, hr3, by simp⟩, ?_⟩
        rintro p4 l4 c4 t Hw ⟨j, ys4, rfl, gj, lw, hs4, hp4, hi4, hr4, hk4⟩
        have hyl4 : ys4.length ≤ 1000 := hgood ys4 hp4 fun k hk => hreach (hr4 k hk)
        have ey4 := hs4.len
        obtain ⟨pd, ld, cd, zu, hsd, g2, g3, g4, g5, g6, hlrw⟩ := hRlen lw
        have hiu : i < zu.length := by have := g3.1; omega
        have eiu : R[i] = zu[i].1 := by subst g5; exact List.getElem_map ..
        have hdlu : zu[i].2.dl = R[i].deps.length := by rw [eiu]; exact (g4 _ (List.getElem_mem hiu)).1.2.1.len
        refine nil (ldL_i g2 (rsZd g3 rfl hiu (bcd (fun hjl => ?_) fun hjl => ?_)))
        · have hj : j < R[i].deps.length := by omega
          have hsd' : Sl fU Hw zu[i].2.dp zu[i].2.dl zu[i].2.dc R[i].deps := by rw [eiu]; exact (g4 _ (List.getElem_mem hiu)).1.2.1.lr hlrw
          refine nil (ldL_i g2 (rsZd g3 rfl hiu (slI (g := fun x => x) hsd' (fun _ => rfl) (by omega) (by omega) fun _ => ?_)))
          simp only [Int.toNat_natCast]
          have hdm : R[i].deps[j] ∈ R[i].deps := List.getElem_mem hj
          refine centoref12_Put.c hs4 (by omega) fun p5 l5 c5 H5 le5 hs5 => chk (by omega) ⟨⟨j + 1, _, by omega, by omega, lw.trans le5, hs5, putL_sort hp4, fun k hk => putL_mem.2 (.inl (hi4 k hk)), fun k hk => ?_, fun d hd => ?_⟩, by first | omega | (dsimp only; omega)⟩
          · rcases putL_mem.1 hk with hk | rfl
            · exact hr4 k hk
            · exact (hr3 _ hin').step hget hdm
          · rw [List.take_succ_eq_append_getElem hj, List.mem_append, List.mem_singleton] at hd
            rcases hd with hd | rfl
            · exact putL_mem.2 (.inl (hk4 d hd))
            · exact putL_mem.2 (.inr rfl)
        · rw [List.take_of_length_le (by omega)] at hk4
          refine chk (by omega) ⟨⟨i + 1, ys4, by omega, by omega, lw, hs4, hp4, fun k hk => hi4 k (hi3 k hk), hr4, fun x hx hx2 d hd => ?_⟩, by first | omega | (dsimp only; omega)⟩
          rw [List.take_succ_eq_append_getElem hiR, List.mem_append, List.mem_singleton] at hx
          rcases hx with hx | rfl
          · exact hi4 d (hk3 x hx hx2 d hd)
          · exact hk4 d hd
    · rw [List.take_of_length_le (by omega)] at hk3
      refine chk (by omega) ⟨⟨n + 1, ys3, by omega, by omega, lz, hs3, hp3, fun k hk => hi3 k (hi2 k hk), hr3, fun k hk hr => ?_⟩, by first | omega | (dsimp only; omega)⟩
      cases hk with
      | base hb => exact hi3 k (hi2 k hb)
      | step hk' hx hd =>
        rename_i k' x
        have h1 := hrk.1 k' x k hx hd
        have h2 := hk2 k' hk' (by omega)
        obtain ⟨hxR, hxid⟩ := sGet_some hx
        exact hk3 x hxR (by rw [hxid]; exact h2) k hd
  · refine h1 hth ys2 _ _ _ Hy ly ⟨hp2, fun k => ⟨hr2 k, fun hk => hk2 k hk (by omega)⟩⟩ hs2
theorem centoref17_Store_Closed.c {rank : Int → Nat} {K : Bool → Hp → Prop} (hR : RfAt A H s b R) (hRl : R.length ≤ 1000) (hn : (R.map (·.id)).Nodup) (hcl : ∀ x ∈ R, ∀ d ∈ x.deps, (sGet R d).isSome = true) (hrk : Ranked R rank) (h : Sl fU H p l cc ids) (hl : l ≤ 1000)
    (hK : ∀ H', Le H H' → K (decide (closedB R ids)) H') : centoref17_Store_Closed.C s p l cc H K := by
  apply centoref17_Store_Closed.of
  have el := h.len
  refine centoref17_Store_Need.c hR hRl hn hcl hrk h hl (fun e H1 l1 => bcd (fun _ => ?_) fun h => absurd (by decide) h) fun e n p1 l1 c1 H1 le1 hnn hs => bcd (fun h => absurd rfl h) fun _ => ?_
  · have : ¬ closedB R ids := fun hc => by rw [hc.1] at e; cases e
    have := hK H1 l1
    rw [decide_eq_false (by assumption)] at this; exact this
  have e1 := hs.len
  have hno : ¬ closedB R ids → ∀ H', Le H H' → K false H' := fun hc H' l' => by
    have := hK H' l'
    rw [decide_eq_false hc] at this; exact this
  refine bcd (fun hlen => ?_) fun hlen => ?_
  · refine hno (fun hc => ?_) _ le1
    have a := nodup_len (lt_nodup hnn.1) (fun k hk => reach_closed hc.2.2 ((hnn.2 k).1 hk))
    have b := nodup_len hc.2.1 (fun k hk => (hnn.2 k).2 (.base hk))
    omega
  unfold centoref17_Store_Closed.k1
  refine ⟨fun t Hx => ∃ i : Nat, t = (i : Nat) ∧ i ≤ n.length ∧ Hx = H1 ∧ ∀ k ∈ n.take i, k ∈ ids, fun t _ => ((n.length : Int) - t).toNat, ⟨0, rfl, Nat.zero_le _, rfl, by simp⟩, ?_⟩
  rintro t Hx ⟨i, rfl, gi, rfl, hall⟩
  refine bcd (fun hlt => ?_) fun hlt => ?_
  · have hi : i < n.length := by omega
    refine slI (g := fun x => x) hs (fun _ => rfl) (by omega) (by omega) fun _ => ?_
    simp only [Int.toNat_natCast]
    refine centoref12_Has.c (h.le le1) (by omega) (bcn (fun hin => ?_) fun hin => ?_)
    · refine hno (fun hc => ?_) _ le1
      exact of_decide_eq_false hin (reach_closed hc.2.2 ((hnn.2 _).1 (List.getElem_mem hi)))
    · refine chk (by omega) ⟨⟨i + 1, by omega, by omega, by trivial, fun k hk => ?_⟩, by first | omega | (dsimp only; omega)⟩
      rw [List.take_succ_eq_append_getElem hi, List.mem_append, List.mem_singleton] at hk
      rcases hk with hk | rfl
      · exact hall k hk
      · exact of_decide_eq_true hin
  · rw [List.take_of_length_le (by omega)] at hall
    have hc : closedB R ids := by
      refine ⟨e, nodup_of_len (lt_nodup hnn.1) hall (by omega), fun k hk d hd => ?_⟩
      exact hall d ((hnn.2 d).2 ((Reach.base hk).dep hd))
    have := hK _ le1
    rw [decide_eq_true hc] at this; exact this
end
end Go.Proofs.YtbpbgkpkkklipaaGreat
namespace Go.Proofs.YtbpbgkpkkklipaaGreat
open Go.V
/-! ### Patches with numbers alone -/
def pI (k : Int) : Pt := ⟨k, [], [], [], []⟩
theorem pI_is {k : Int} (h : k ≠ 0) : isB (pI k) = true := by
  have e : isB (pI k) = (decide (¬ k = 0) && true) := rfl
  rw [e, decide_eq_true h]; rfl
theorem pI_sm {k : Int} : PtSm (pI k) := smP (by decide) (by decide) (by simp)
theorem pI_pt {H : Hp} {k : Int} : PtS H k none 0 0 none 0 0 none 0 0 none 0 0 (pI k) := ptP Sl.nil Sl.nil
def fullS (n : Nat) : List Pt := (List.range n).map fun j => pI (3 * (j + 1 : Nat))
theorem fullS_len (n : Nat) : (fullS n).length = n := by simp [fullS]
theorem fullS_succ (n : Nat) : fullS (n + 1) = fullS n ++ [pI (3 * (n + 1 : Nat))] := by simp [fullS, List.range_succ]
theorem fullS_none {n : Nat} {k : Int} (h : ∀ j : Nat, j < n → k ≠ 3 * (j + 1 : Nat)) : sGet (fullS n) k = none := sGet_none.2 fun x hx e => by
  obtain ⟨j, hj, rfl⟩ := List.mem_map.1 hx
  exact h j (List.mem_range.1 hj) e.symm
theorem fullS_some {n j : Nat} (h : j < n) : sGet (fullS n) (3 * (j + 1 : Nat)) = some (pI (3 * (j + 1 : Nat))) := by
  induction n with
  | zero => omega
  | succ n ih =>
    rw [fullS_succ, sGet_snoc]
    by_cases hj : j = n
    · subst hj
      rw [fullS_none fun i hi e => by omega]
      simp [pI]
    · rw [ih (by omega)]
theorem sIds_len {S : List Pt} (hn : (S.map (·.id)).Nodup) : (sIds S).length = S.length := by
  have h1 := lt_nodup (setL_pw (S.map (·.id)))
  have a := nodup_len h1 (zs := S.map (·.id)) fun k hk => setL_mem.1 hk
  have b := nodup_len hn (zs := setL (S.map (·.id))) fun k hk => setL_mem.2 hk
  rw [List.length_map] at a b
  unfold sIds
  omega
end Go.Proofs.YtbpbgkpkkklipaaGreat
namespace Go.Proofs.YtbpbgkpkkklipaaGreat
open Go.V
/-! ### Stores as they come to be -/
structure StOk (S : List Pt) : Prop where
  len : S.length ≤ 60
  dep : ∀ x ∈ S, ∀ d ∈ x.deps, (sGet S d).isSome = true
theorem StOk.nil : StOk [] := ⟨by decide, by simp⟩
theorem isSome_snoc {S : List Pt} {x : Pt} {d : Int} (h : (sGet S d).isSome = true) : (sGet (S ++ [x]) d).isSome = true := by
  rw [sGet_snoc]
  cases hg : sGet S d with
  | none => rw [hg] at h; cases h
  | some y => rfl
theorem sAdd_cases (S : List Pt) (x : Pt) : (sAdd S x).2 = S ∨ (sAdd S x = (0, S ++ [x]) ∧ isB x = true ∧ sGet S x.id = none ∧ (∀ d ∈ x.deps, (sGet S d).isSome = true) ∧ S.length < 60) := by
  unfold sAdd
  by_cases h1 : isB x = false
  · left; rw [if_pos h1]
  rw [if_neg h1]
  cases hg : sGet S x.id with
  | some y => left; rfl
  | none =>
    simp only
    by_cases h2 : (x.deps.all fun d => (sGet S d).isSome) = false
    · left; rw [if_pos h2]
    rw [if_neg h2]
    by_cases h3 : 60 ≤ S.length
    · left; rw [if_pos h3]
    rw [if_neg h3]
    right
    refine ⟨rfl, by simpa using h1, trivial, ?_, by omega⟩
    have : (x.deps.all fun d => (sGet S d).isSome) = true := by
      cases h : (x.deps.all fun d => (sGet S d).isSome) with
      | true => rfl
      | false => exact absurd h h2
    exact List.all_eq_true.1 this
theorem StOk.add {S : List Pt} (h : StOk S) (x : Pt) : StOk (sAdd S x).2 := by
  rcases sAdd_cases S x with e | ⟨e, _, _, h2, h3⟩
  · rw [e]; exact h
  · rw [e]
    refine ⟨by rw [List.length_append, List.length_singleton]; omega, fun y hy d hd => ?_⟩
    rcases List.mem_append.1 hy with hy | hy
    · exact isSome_snoc (h.dep y hy d hd)
    · simp at hy; subst hy
      exact isSome_snoc (h2 d hd)
theorem StOk.reach {S : List Pt} (h : StOk S) {ids : List Int} (hi : thereB S ids = true) {k : Int} (hr : Reach S ids k) : (sGet S k).isSome = true := by
  cases hr with
  | base hk => exact List.all_eq_true.1 hi k hk
  | step _ hx hd => exact h.dep _ (sGet_some hx).1 _ hd
theorem StOk.need {S : List Pt} (h : StOk S) {ids n : List Int} (hi : thereB S ids = true) (hn : NeedOf S ids n) : closedB S n := by
  refine ⟨List.all_eq_true.2 fun k hk => h.reach hi ((hn.2 k).1 hk), lt_nodup hn.1, fun k hk d hd => (hn.2 d).2 (((hn.2 k).1 hk).dep hd)⟩
theorem StOk.all {S : List Pt} (h : StOk S) : closedB S (sIds S) := by
  have hm : ∀ k, k ∈ sIds S ↔ (sGet S k).isSome = true := fun k => by
    rw [sGet_is, decide_eq_true_eq]; exact setL_mem
  refine ⟨List.all_eq_true.2 fun k hk => (hm k).1 hk, lt_nodup (setL_pw _), fun k hk d hd => ?_⟩
  rw [hm]
  unfold depsOf at hd
  cases hg : sGet S k with
  | none => rw [hg] at hd; cases hd
  | some x => rw [hg] at hd; exact h.dep x (sGet_some hg).1 d hd
/-- What is needed, but wasn't asked for, has a user. -/
theorem needs_user {S : List Pt} {ids n : List Int} (hn : NeedOf S ids n) {d : Int} (hd : d ∈ n) (hi : d ∉ ids) : 0 < (usersL S n d).length := by
  have hr := (hn.2 d).1 hd
  cases hr with
  | base h => exact absurd h hi
  | step h hx hdx =>
    rename_i k x
    have hk := (hn.2 k).2 h
    refine List.length_pos_of_mem (a := k) ?_
    unfold usersL
    rw [List.mem_filter]
    refine ⟨setL_mem.2 hk, ?_⟩
    rw [decide_eq_true_eq]
    unfold depsOf
    rw [hx]; exact hdx
end Go.Proofs.YtbpbgkpkkklipaaGreat
namespace Go.Proofs.YtbpbgkpkkklipaaGreat
open Go.V
/-! ### The document's lists, users; a store's copy -/
section
variable {A H : Hp} {s : Option Addr} {b : Nat} {R : List Pt} {p : Option Addr} {l cc : Nat} {ids : List Int}
def inL (ids : List Int) (x : Pt) : Bool := decide (x.id ∈ ids)
theorem filter_snoc {α : Type} {f : α → Bool} {xs : List α} {i : Nat} (hi : i < xs.length) : (xs.take (i + 1)).filter f = (xs.take i).filter f ++ if f xs[i] then [xs[i]] else [] := by
  rw [List.take_succ_eq_append_getElem hi, List.filter_append]
  cases h : f xs[i] <;> simp [h]
theorem centoref17_Store_List.c {K : Option Addr → Nat → Nat → Int → Hp → Prop} (hR : RfAt A H s b R) (hRl : R.length ≤ 1000) (h : Sl fU H p l cc ids) (hl : l ≤ 1000)
    (h0 : thereB R ids = false → ∀ H', Le H H' → K none 0 0 15 H')
    (h1 : thereB R ids = true → ∀ p' l' c' zs H', Le H H' → Lr A H' → Sn 5 pdC H' p' l' c' zs → (∀ z ∈ zs, PdS A z ∧ PtSm z.1) → zs.map (·.1) = R.filter (inL ids) → K p' l' c' 0 H') : centoref17_Store_List.C s p l cc H K := by
  apply centoref17_Store_List.of
  have el := h.len
  refine ⟨fun t Hx => ∃ i : Nat, t = (i : Nat) ∧ i ≤ ids.length ∧ Le H Hx ∧ ∀ k ∈ ids.take i, (sGet R k).isSome = true, fun t _ => ((ids.length : Int) - t).toNat, ⟨0, rfl, Nat.zero_le _, Le.refl _, by simp⟩, ?_⟩
  rintro t Hx ⟨i, rfl, gi, lx, hall⟩
  refine bcd (fun hlt => ?_) fun hlt => ?_
  · have hi : i < ids.length := by omega
    refine slI (g := fun x => x) (h.le lx) (fun _ => rfl) (by omega) (by omega) fun _ => ?_
    simp only [Int.toNat_natCast]
    refine centoref17_Store_Get.c (hR.lr lx.lr) hRl (fun hg H2 l2 => D5.mk fun o H3 _ _ l3 => bcT ?_) fun y dy H2 hg l2 _ _ _ => D5.mk fun o H3 _ _ l3 => bcF (chk (by omega) ⟨⟨i + 1, by omega, by omega, (lx.trans l2).trans l3, fun k hk => ?_⟩, by first | omega | (dsimp only; omega)⟩)
    · refine h0 ?_ _ ((lx.trans l2).trans l3)
      unfold thereB
      rw [List.all_eq_false]
      exact ⟨_, List.getElem_mem hi, by rw [hg]; decide⟩
    · rw [List.take_succ_eq_append_getElem hi, List.mem_append, List.mem_singleton] at hk
      rcases hk with hk | rfl
      · exact hall k hk
      · rw [hg]; rfl
  rw [List.take_of_length_le (by omega)] at hall
  have hth : thereB R ids = true := List.all_eq_true.2 hall
  obtain ⟨hA, hlr, pb, lb, cb, zs, rfl, e2, e3, e4, rfl⟩ := hR
  have e3' := e3.1
  rw [List.length_map] at hRl
  refine ⟨fun p l c t Hy => ∃ i : Nat, t = (i : Nat) ∧ i ≤ zs.length ∧ Le H Hy ∧ Buf 5 H Hy p l c (((zs.take i).filter fun z => inL ids z.1).flatMap pdC), fun _ _ _ t _ => ((zs.length : Int) - t).toNat, ⟨0, rfl, Nat.zero_le _, lx, Buf.none⟩, ?_⟩
  rintro p1 l1 c1 t Hy ⟨i, rfl, gi', ly, hB⟩
  have hbl : l1 ≤ i := by
    have := hB.1
    rw [pdC_flen] at this
    have h2 := List.length_filter_le (fun z : Pt × PD => inL ids z.1) (zs.take i)
    rw [List.length_take] at h2
    omega
  refine nil (ldL_i (ly.rd e2) (bcd (fun hlt => ?_) fun hlt => ?_))
  · have hi : i < zs.length := by omega
    refine nil (ldL_i (ly.rd e2) (rsZi (e3.le ly) rfl hi (centoref12_Has.c (h.le ly) (by omega) (bcd (fun hin => ?_) fun hin => ?_))))
    · refine nil (ldL_i (ly.rd e2) (rsZ (e3.le ly) rfl hi ?_))
      refine hB.pushS (te := te_api_Patch) (new := pdC zs[i]) rfl (by decide) rfl (by decide) rfl rfl (by simp [te_api_Patch]; omega) (fun p' c' H2 hB2 _ m2 => ?_) ly.was
      refine chk (by omega) ⟨⟨i + 1, by omega, by omega, m2.le ly fun b hb => hB.fr b 0 (blkL_mem hB.zero hb), ?_⟩, by first | omega | (dsimp only; omega)⟩
      rw [filter_snoc hi, if_pos (show inL ids zs[i].1 = true from decide_eq_true hin), List.flatMap_append]
      simpa using hB2
    · refine chk (by omega) ⟨⟨i + 1, by omega, by omega, ly, ?_⟩, by first | omega | (dsimp only; omega)⟩
      rw [filter_snoc hi, if_neg (by unfold inL; rw [decide_eq_false hin]; decide), List.append_nil]
      exact hB
  · rw [List.take_of_length_le (by omega)] at hB
    refine h1 hth _ _ _ (zs.filter fun z => inL ids z.1) Hy ly (hlr.trans ly.lr) (hB.sn pdC_len (by decide)) (fun z hz => e4 z (List.mem_filter.1 hz).1) ?_
    rw [List.filter_map]; rfl
def usersR (R : List Pt) (ids : List Int) (k : Int) : List Int := (R.filter fun x => decide (x.id ∈ ids) && decide (k ∈ x.deps)).map (·.id)
theorem centoref17_Store_Users.c {k : Int} {K : Option Addr → Nat → Nat → Hp → Prop} (hR : RfAt A H s b R) (hRl : R.length ≤ 1000) (h : Sl fU H p l cc ids) (hl : l ≤ 1000)
    (hK : ∀ p' l' c' H', Le H H' → Sl fU H' p' l' c' (usersR R ids k) → K p' l' c' H') : centoref17_Store_Users.C s p l cc k H K := by
  apply centoref17_Store_Users.of
  have el := h.len
  obtain ⟨hA, hlr, pb, lb, cb, zs, rfl, e2, e3, e4, hz⟩ := hR
  have e3' := e3.1
  have hzl : zs.length = R.length := by rw [← hz, List.length_map]
  refine ⟨fun p l c t Hy => ∃ i : Nat, t = (i : Nat) ∧ i ≤ R.length ∧ Le H Hy ∧ Buf 1 H Hy p l c ((usersR (R.take i) ids k).map fU), fun _ _ _ t _ => ((R.length : Int) - t).toNat, ⟨0, rfl, Nat.zero_le _, Le.refl _, Buf.none⟩, ?_⟩
  rintro p1 l1 c1 t Hy ⟨i, rfl, gi', ly, hB⟩
  have hbl : l1 ≤ i := by
    have := hB.1
    unfold usersR at this
    rw [List.length_map, List.length_map] at this
    have h2 := List.length_filter_le (fun x : Pt => decide (x.id ∈ ids) && decide (k ∈ x.deps)) (R.take i)
    rw [List.length_take] at h2
    omega
  have next : ∀ hi : i < R.length, usersR (R.take (i + 1)) ids k = usersR (R.take i) ids k ++ if (decide (R[i].id ∈ ids) && decide (k ∈ R[i].deps)) = true then [R[i].id] else [] := fun hi => by
    unfold usersR
    rw [filter_snoc hi, List.map_append]
    split <;> rfl
  refine nil (ldL_i (ly.rd e2) (bcd (fun hlt => ?_) fun hlt => ?_))
  · have hi : i < zs.length := by omega
    have hiR : i < R.length := by omega
    have ei : R[i] = zs[i].1 := by subst hz; exact List.getElem_map ..
    have skip : ∀ Hz t, Le Hy Hz → t = false → (decide (R[i].id ∈ ids) && decide (k ∈ R[i].deps)) = false → centoref17_Store_Users.k1 Hy (fun p l c t Hy => ∃ i : Nat, t = (i : Nat) ∧ i ≤ R.length ∧ Le H Hy ∧ Buf 1 H Hy p l c ((usersR (R.take i) ids k).map fU)) ((i : Nat) : Int) c1 l1 p1 (fun _ _ _ t _ => ((R.length : Int) - t).toNat) (some ⟨b, 0, none⟩) t Hz := fun Hz t lz ht hno => by
      subst ht
      unfold centoref17_Store_Users.k1
      refine bcF (chk (by omega) ⟨⟨i + 1, by omega, by omega, ly.trans lz, ?_⟩, by first | omega | (dsimp only; omega)⟩)
      rw [next hiR, hno, if_neg (by decide), List.append_nil]
      exact hB.le lz
    refine nil (ldL_i (ly.rd e2) (rsZi (e3.le ly) rfl hi (centoref12_Has.c (h.le ly) (by omega) (bcd (fun hin => ?_) fun hin => ?_))))
    · have hd := (e4 _ (List.getElem_mem hi)).1.2.1
      have hdl := hd.len
      have hdm := (e4 _ (List.getElem_mem hi)).2.deps
      refine nil (ldL_i (ly.rd e2) (rsZd (e3.le ly) rfl hi (centoref12_Has.c (hd.lr (hlr.trans ly.lr)) (by omega) ?_)))
      by_cases hk : k ∈ zs[i].1.deps
      · rw [decide_eq_true hk]
        unfold centoref17_Store_Users.k1
        refine bcT (nil (ldL_i (ly.rd e2) (rsZi (e3.le ly) rfl hi ?_)))
        refine hB.pushS (te := te_uint32) rfl (by decide) rfl (by decide) rfl rfl (by simp [te_uint32]; omega) (fun p' c' H2 hB2 _ m2 => ?_) ly.was
        refine chk (by omega) ⟨⟨i + 1, by omega, by omega, m2.le ly fun b hb => hB.fr b 0 (blkL_mem hB.zero hb), ?_⟩, by first | omega | (dsimp only; omega)⟩
        rw [next hiR, ei, decide_eq_true hin, decide_eq_true hk, Bool.and_true, if_pos rfl, List.map_append]
        exact hB2
      · rw [decide_eq_false hk]
        exact skip Hy false (Le.refl _) rfl (by rw [ei, decide_eq_false hk, Bool.and_false])
    · exact skip Hy false (Le.refl _) rfl (by rw [ei, decide_eq_false hin, Bool.false_and])
  · rw [List.take_of_length_le (by omega)] at hB
    exact hK _ _ _ Hy ly hB.sl
end
section
variable {H : Hp} {s : Option Addr} {m : Nat} {S : List Pt}
theorem maps_clone.c {l : List (Int × Value)} {K : Value → Hp → Prop} (hM : MapAt fU H m l) (hK : ∀ b H', H b = none → Le H H' → MapAt fU H' b l → K (.iface ty_map_uint32_api_Patch (.map (some b))) H') : maps_clone.C (.iface ty_map_uint32_api_Patch (.map (some m))) H K :=
  callX (fn := (prog.funcs[maps_clone.num]?).getD default) (e := Extern.MapsClone.clone) (by kernel_rfl) (by kernel_rfl) (by kernel_rfl) (by kernel_rfl) (by kernel_rfl) fun w hw => mclone_run hM (F := K) hK w hw
theorem store_Store_Copy.c {K : Option Addr → Hp → Prop} (hS : StAt H s m S) (hK : ∀ m' b' H', H m' = none → H b' = none → Le H H' → StAt H' (some ⟨b', 0, none⟩) m' S → K (some ⟨b', 0, none⟩) H') : store_Store_Copy.C s H K := by
  apply store_Store_Copy.of
  obtain ⟨b, l, rfl, h2, h3, h4⟩ := hS
  refine nil ⟨_, h2, ?_⟩
  apply maps_Clone_map_uint32_api_Patch_uint32_api_Patch.of
  refine bcd (fun h => by cases h) fun _ => maps_clone.c h3 fun m' H1 hm' l1 hM => ⟨_, rfl, fun b' hb' => ?_⟩
  have l2 := Le.upd (c := [.map (some m')]) hb'
  exact hK m' b' _ hm' (none_of_le l1 hb') (l1.trans l2) ⟨b', l, rfl, by rw [rd_upd_self]; rfl, hM.le l2, h4.lr (l1.trans l2).lr⟩
end
/-! ### Both stores -/
theorem Sl.lw {α : Type} {f : α → Value} {H H' : Hp} {p : Option Addr} {l c : Nat} {xs : List α} (h : Sl f H p l c xs) (hf : ∀ x p l c, f x ≠ .slice p l c) (hl : Lw H H') : Sl f H' p l c xs :=
  ⟨h.1, h.2.1, h.2.2.imp id fun ⟨b, o, hp, h⟩ => ⟨b, o, hp, fun i hi => hl _ _ _ (h i hi) fun _ => hf _⟩⟩
theorem Sn.lw {α : Type} {n : Nat} {f : α → List Value} {H H' : Hp} {p : Option Addr} {l c : Nat} {xs : List α} (h : Sn n f H p l c xs) (hf : ∀ x, ∀ v ∈ f x, ∀ p l c, v ≠ .slice p l c) (hl : Lw H H') : Sn n f H' p l c xs :=
  ⟨h.1, h.2.1, h.2.2.imp id fun ⟨b, o, e, h⟩ => ⟨b, o, e, fun i hi j v ev => hl _ _ _ (h i hi j v ev) fun _ => hf _ v (List.mem_of_getElem? ev)⟩⟩
theorem HkH.lw {H H' : Hp} {p : Option Addr} {l c : Nat} {hs : List Hk} (h : HkH H p l c hs) (hl : Lw H H') : HkH H' p l c hs := by
  refine ⟨h.1, h.2.1, h.2.2.imp id fun ⟨b, o, e, hh⟩ => ⟨b, o, e, fun i hi => ?_⟩⟩
  obtain ⟨ap, al, ac, ep, el, ec, kp, kl, kc, h1, h2, h3, h4, h5, h6, h7⟩ := hh i hi
  refine ⟨ap, al, ac, ep, el, ec, kp, kl, kc, hl _ _ _ h1 (fun _ _ _ _ e => by cases e), hl _ _ _ h2 (fun e => by omega), hl _ _ _ h3 (fun e => by omega), hl _ _ _ h4 (fun e => by omega), Sl.lw h5 (fun _ _ _ _ e => by cases e) hl, Sn.lw h6 (fun x v hv p l c e => ?_) hl, Sn.lw h7 (fun x v hv p l c e => ?_) hl⟩
  · subst e; simp [edC] at hv
  · subst e; simp [lidC] at hv
theorem PtS.lw {H H' : Hp} {id : Int} {dp mp qp hp : Option Addr} {dl dc ml mc ql qc hl hc : Nat} {x : Pt} (h : PtS H id dp dl dc mp ml mc qp ql qc hp hl hc x) (hle : Lw H H') : PtS H' id dp dl dc mp ml mc qp ql qc hp hl hc x :=
  ⟨h.1, Sl.lw h.2.1 (fun _ _ _ _ e => by cases e) hle, Sl.lw h.2.2.1 (fun _ _ _ _ e => by cases e) hle, Sl.lw h.2.2.2.1 (fun _ _ _ _ e => by cases e) hle, h.2.2.2.2.lw hle⟩
theorem Ents.lw {H H' : Hp} (hl : Lw H H') : ∀ {l : List (Int × Value)} {S : List Pt}, Ents H l S → Ents H' l S
  | [], [], _ => trivial
  | [], _ :: _, h => h.elim
  | _ :: _, [], h => h.elim
  | _ :: _, _ :: _, h => by
    refine ⟨h.1, ?_, Ents.lw hl h.2.2⟩
    obtain ⟨dp, dl, dc, mp, ml, mc, qp, ql, qc, hp, hl', hc, e, h1, h2⟩ := h.2.1
    exact ⟨dp, dl, dc, mp, ml, mc, qp, ql, qc, hp, hl', hc, e, h1.lw hl, h2⟩
theorem StAt.lw {H H' : Hp} {s : Option Addr} {m b : Nat} {S : List Pt} (h : StAt H s m S) (hl : Lw H H') (hm : Mod [b] H H') (hne : m ≠ b) : StAt H' s m S := by
  obtain ⟨q, l, h1, h2, h3, h4⟩ := h
  exact ⟨q, l, h1, hl _ _ _ h2 (fun _ _ _ _ e => by cases e), h3.mod hm (by simpa using hne), h4.lw hl⟩
/-- The same patches, as they came and by their numbers. -/
structure SR (S R : List Pt) : Prop where
  perm : R.Perm S
  nd : (S.map (·.id)).Nodup
  srt : (R.map (·.id)).Pairwise fun a b => Sort.ltInt a b = true
  ok : StOk S
  rank : ∃ rank, Ranked R rank
theorem SR.nil : SR [] [] := ⟨.refl _, List.nodup_nil, by simp, .nil, ⟨fun _ => 0, ⟨fun _ _ _ h _ => by simp [sGet] at h, fun _ h => by simp [sGet] at h⟩⟩⟩
theorem SR.get {S R : List Pt} (h : SR S R) : sGet R = sGet S := by
  funext k
  have hR : (R.map (·.id)).Nodup := (h.perm.map _).nodup_iff.2 h.nd
  cases hg : sGet S k with
  | none =>
    rw [sGet_none] at hg ⊢
    exact fun x hx => hg x (h.perm.mem_iff.1 hx)
  | some x =>
    obtain ⟨h1, rfl⟩ := sGet_some hg
    exact sGet_of hR (h.perm.mem_iff.2 h1)
theorem rIns_ids {R : List Pt} {x : Pt} (hx : x.id ∉ R.map (·.id)) : (rIns R x).map (·.id) = putL Sort.ltInt (R.map (·.id)) x.id := by
  unfold rIns putL
  rw [if_neg hx, List.map_append, List.map_cons, List.takeWhile_map, List.dropWhile_map]
  rfl
theorem rIns_perm {R : List Pt} {x : Pt} : (rIns R x).Perm (R ++ [x]) := by
  unfold rIns
  have : (R ++ [x]).Perm (x :: R) := List.perm_append_comm (l₁ := R) (l₂ := [x])
  refine List.Perm.trans List.perm_middle (List.Perm.trans ?_ this.symm)
  rw [List.takeWhile_append_dropWhile]
theorem SR.add {S R : List Pt} (h : SR S R) (x : Pt) : (sAdd S x).1 = (rAdd R x).1 ∧ SR (sAdd S x).2 (rAdd R x).2 := by
  have hg := h.get
  have hlen : R.length = S.length := h.perm.length_eq
  have h60 := h.ok.len
  unfold sAdd rAdd
  rw [hg, hlen]
  by_cases h1 : isB x = false
  · rw [if_pos h1, if_pos h1]; exact ⟨rfl, h⟩
  rw [if_neg h1, if_neg h1]
  cases hx : sGet S x.id with
  | some y =>
    refine ⟨?_, h⟩
    simp only
    by_cases e : x = y
    · subst e; rfl
    · rw [if_neg e, if_neg (fun e' => e e'.symm)]
  | none =>
    simp only
    by_cases h2 : (x.deps.all fun d => (sGet S d).isSome) = false
    · rw [if_pos h2, if_pos h2]; exact ⟨rfl, h⟩
    rw [if_neg h2, if_neg h2]
    by_cases h3 : 60 ≤ S.length
    · rw [if_pos h3, if_pos (by omega)]; exact ⟨rfl, h⟩
    rw [if_neg h3, if_neg (by omega)]
    refine ⟨rfl, rIns_perm.trans (h.perm.append_right _), ?_, ?_, ?_, ?_⟩
    · rw [List.map_append, List.map_singleton, List.nodup_append]
      refine ⟨h.nd, by simp, fun a ha b hb => ?_⟩
      simp only [List.mem_singleton] at hb
      subst hb
      rintro rfl
      obtain ⟨y, hy, e⟩ := List.mem_map.1 ha
      exact sGet_none.1 hx y hy e
    · show ((rIns R x).map (·.id)).Pairwise _
      rw [rIns_ids fun hm => by
        obtain ⟨y, hy, e⟩ := List.mem_map.1 hm
        exact sGet_none.1 hx y (h.perm.mem_iff.1 hy) e]
      exact putL_sort h.srt
    · have hok := h.ok.add x
      unfold sAdd at hok
      rw [if_neg h1, hx] at hok
      simp only at hok
      rw [if_neg h2, if_neg h3] at hok
      exact hok
    · obtain ⟨rank, r1, r2⟩ := h.rank
      have hall : ∀ d ∈ x.deps, (sGet S d).isSome = true := by
        refine List.all_eq_true.1 ?_
        cases hh : (x.deps.all fun d => (sGet S d).isSome) with
        | true => rfl
        | false => exact absurd hh h2
      have hnew : ∀ k y, sGet (rIns R x) k = some y → (k = x.id ∧ y = x) ∨ (k ≠ x.id ∧ sGet S k = some y) := fun k y hy => by
        obtain ⟨hy1, hy2⟩ := sGet_some hy
        rcases List.mem_append.1 (rIns_perm.mem_iff.1 hy1) with hy3 | hy3
        · right
          have h4 := sGet_of h.nd (h.perm.mem_iff.1 hy3)
          rw [hy2] at h4
          exact ⟨fun e => (by rw [e, hx] at h4; cases h4), h4⟩
        · simp at hy3; subst hy3; exact .inl ⟨hy2.symm, rfl⟩
      have hlr : (rIns R x).length = S.length + 1 := by rw [rIns_perm.length_eq, List.length_append, List.length_singleton, hlen]
      refine ⟨fun k => if k = x.id then S.length else rank k, fun k y d hy hd => ?_, fun k hk => ?_⟩
      · rcases hnew k y hy with ⟨rfl, rfl⟩ | ⟨hk, hy'⟩
        · have hd' := hall d hd
          have hne : d ≠ y.id := fun e => by rw [e, hx] at hd'; cases hd'
          dsimp only
          rw [if_neg hne, if_pos rfl, ← hlen]
          exact r2 d (by rw [hg]; exact hd')
        · have hd' := h.ok.dep y (sGet_some hy').1 d hd
          have hne : d ≠ x.id := fun e => by rw [e, hx] at hd'; cases hd'
          dsimp only
          rw [if_neg hne, if_neg hk]
          exact r1 k y d (by rw [hg]; exact hy') hd
      · rw [hlr]
        cases hy : sGet (rIns R x) k with
        | none => rw [hy] at hk; cases hk
        | some y =>
          rcases hnew k y hy with ⟨rfl, rfl⟩ | ⟨hk', hy'⟩
          · dsimp only; rw [if_pos rfl]; omega
          · dsimp only; rw [if_neg hk']
            have := r2 k (by rw [hg, hy']; rfl)
            omega
theorem Reach.congr {S R : List Pt} (h : sGet R = sGet S) {ids : List Int} {k : Int} (hr : Reach S ids k) : Reach R ids k := by
  induction hr with
  | base h => exact .base h
  | step _ hx hd ih => exact ih.step (by rw [h]; exact hx) hd
theorem SR.there {S R : List Pt} (h : SR S R) (ids : List Int) : thereB R ids = thereB S ids := by unfold thereB; rw [h.get]
theorem SR.need {S R : List Pt} (h : SR S R) {ids n n' : List Int} (hn : NeedOf S ids n) (hn' : NeedOf R ids n') : n = n' :=
  sorted_lt_mem ltInt_irr (fun _ _ => ltInt_anti) ltInt_tr hn.1 hn'.1 fun k => (hn.2 k).trans ⟨fun h1 => (hn'.2 k).2 (h1.congr h.get), fun h1 => ((hn'.2 k).1 h1).congr h.get.symm⟩
theorem SR.closed {S R : List Pt} (h : SR S R) (ids : List Int) : decide (closedB S ids) = decide (closedB R ids) := by
  have : closedB S ids ↔ closedB R ids := by unfold closedB depsOf; rw [h.there, h.get]
  by_cases hc : closedB S ids
  · rw [decide_eq_true hc, decide_eq_true (this.1 hc)]
  · rw [decide_eq_false hc, decide_eq_false (fun h => hc (this.2 h))]
theorem SR.ids {S R : List Pt} (h : SR S R) : sIds S = R.map (·.id) := by
  symm
  exact setL_eq h.srt fun k => (h.perm.map _).mem_iff
theorem SR.list {S R : List Pt} (h : SR S R) {ids : List Int} (ht : thereB S ids = true) : listS S ids = R.filter (inL ids) := by
  have e : setL ids = (R.filter (inL ids)).map (·.id) := by
    symm
    refine setL_eq (h.srt.sublist (List.filter_sublist.map _)) fun k => ?_
    rw [List.mem_map]
    constructor
    · rintro ⟨x, hx, rfl⟩
      exact of_decide_eq_true (List.mem_filter.1 hx).2
    · intro hk
      have := List.all_eq_true.1 ht k hk
      cases hg : sGet S k with
      | none => rw [hg] at this; cases this
      | some x =>
        obtain ⟨h1, rfl⟩ := sGet_some hg
        exact ⟨x, List.mem_filter.2 ⟨h.perm.mem_iff.2 h1, decide_eq_true hk⟩, rfl⟩
  unfold listS
  rw [e, List.map_map]
  conv => rhs; rw [← List.map_id (R.filter (inL ids))]
  refine List.map_congr_left fun x hx => ?_
  have := sGet_of h.nd (h.perm.mem_iff.1 (List.mem_filter.1 hx).1)
  simp [this]
theorem SR.users {S R : List Pt} (h : SR S R) (ids : List Int) (k : Int) : usersL S ids k = usersR R ids k := by
  refine sorted_lt_mem ltInt_irr (fun _ _ => ltInt_anti) ltInt_tr ((setL_pw _).filter _) (h.srt.sublist (List.filter_sublist.map _)) fun y => ?_
  unfold usersL usersR
  rw [List.mem_filter, setL_mem, decide_eq_true_eq, List.mem_map]
  constructor
  · rintro ⟨h1, h2⟩
    unfold depsOf at h2
    cases hg : sGet S y with
    | none => rw [hg] at h2; cases h2
    | some x =>
      rw [hg] at h2
      obtain ⟨h3, rfl⟩ := sGet_some hg
      refine ⟨x, List.mem_filter.2 ⟨h.perm.mem_iff.2 h3, ?_⟩, rfl⟩
      rw [Bool.and_eq_true, decide_eq_true_eq, decide_eq_true_eq]
      exact ⟨h1, h2⟩
  · rintro ⟨x, hx, rfl⟩
    obtain ⟨h1, h2⟩ := List.mem_filter.1 hx
    rw [Bool.and_eq_true, decide_eq_true_eq, decide_eq_true_eq] at h2
    refine ⟨h2.1, ?_⟩
    unfold depsOf
    rw [sGet_of h.nd (h.perm.mem_iff.1 h1)]
    exact h2.2
end Go.Proofs.YtbpbgkpkkklipaaGreat
namespace Go.Proofs.YtbpbgkpkkklipaaGreat
open Go.V
section
variable {H H' : Hp} {p : Option Addr} {l c : Nat} {xs : List Pt}
theorem ptL_rep {xs : List PtX} (h : ptE.rows H p l c xs) : PtL H p l c (xs.map toPt) := by
  refine ⟨by rw [List.length_map]; exact h.1, h.2.1, ?_⟩
  by_cases hn : xs = []
  · left; rw [hn]; rfl
  · right
    have hpos : 0 < xs.length := List.length_pos_iff.2 hn
    obtain ⟨b, o, hp⟩ := h.2.2.2.1 (by have := h.1; have := h.2.1; omega)
    refine ⟨b, o, hp, fun i hi => ?_⟩
    rw [List.length_map] at hi
    obtain ⟨cs, hr, h6⟩ := h.2.2.2.2 b o hp i hi
    obtain ⟨dp, dl, dc, mp, ml, mc, qp, ql, qc, hp', hl', hc, rfl, h7, h8⟩ := ptE_rep hr
    rw [List.getElem_map]
    exact ⟨dp, dl, dc, mp, ml, mc, qp, ql, qc, hp', hl', hc, h6 0 _ rfl, h6 1 _ rfl, h6 2 _ rfl, h6 3 _ rfl, h6 4 _ rfl, h7, h8⟩
end
def fewAB (xs : List Pt) : Bool := xs.all fewB && decide (xs.length ≤ 16)
section
variable {H : Hp} {p : Option Addr} {l cc : Nat} {xs : List Pt}
theorem take_all {xs : List Pt} {g : Pt → Bool} {i : Nat} (hi : i < xs.length) : (xs.take (i + 1)).all g = ((xs.take i).all g && g xs[i]) := by
  rw [List.take_succ_eq_append_getElem hi, List.all_append]; simp
theorem allP_bad {xs : List Pt} {g : Pt → Bool} {i : Nat} (hi : i < xs.length) (h : g xs[i] = false) : xs.all g = false := by
  rw [List.all_eq_false]
  exact ⟨_, List.getElem_mem hi, by rw [h]; decide⟩
theorem centolaw17_fewAll.c {K : Bool → Hp → Prop} (h : PtL H p l cc xs) (hll : l ≤ 9223372036854775807) (hK : ∀ H', Le H H' → K (fewAB xs) H') : centolaw17_fewAll.C p l cc H K := by
  apply centolaw17_fewAll.of
  have el := h.1
  unfold fewAB at hK
  refine ⟨fun t Hx => ∃ i : Nat, t = (i : Nat) ∧ i ≤ xs.length ∧ Le H Hx ∧ (xs.take i).all fewB = true, fun t _ => ((xs.length : Int) - t).toNat, ⟨0, rfl, Nat.zero_le _, Le.refl _, rfl⟩, ?_⟩
  rintro t Hx ⟨i, rfl, gi, lx, hi'⟩
  refine bcd (fun hlt => ?_) fun hlt => ?_
  · have hi : i < xs.length := by omega
    refine rsP (h.le lx) rfl hi fun dp dl dc mp ml mc qp ql qc hp hl hc hx hbd => centolaw17_few.c hx hbd fun H2 l2 => bcn (fun hf => ?_) fun hf => ?_
    · have := hK H2 (lx.trans l2)
      rw [allP_bad hi hf, Bool.false_and] at this; exact this
    · exact chk (by omega) ⟨⟨i + 1, by omega, by omega, lx.trans l2, by rw [take_all hi, hi', hf]; rfl⟩, by first | omega | (dsimp only; omega)⟩
  · rw [List.take_of_length_le (by omega)] at hi'
    have := hK Hx lx
    rw [hi', Bool.true_and] at this
    have e : decide (((l : Nat) : Int) ≤ 16) = decide (xs.length ≤ 16) := decide_eq_decide.2 (by omega)
    rw [e]; exact this
end
end Go.Proofs.YtbpbgkpkkklipaaGreat
