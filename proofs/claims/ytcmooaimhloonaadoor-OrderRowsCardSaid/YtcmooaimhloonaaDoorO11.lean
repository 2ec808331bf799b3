/- For every input OrderRows returns true, and what came in reads as it did: tied to the table of math/bits. -/
import Derived.Test.YtcmooaimhloonaaDoorO10
import Derived.Test.YtcmooaimhloonaaDoorBT
import Derived.Test.YtcmooaimhloonaaDoorVcOpen
namespace Go.Proofs.YtcmooaimhloonaaDoor
open Go.V
open Go.ChangeShapes Go.WideShapes Go.ChangeAt Go.RowKit Go.WideElems Go.WideMaps
/-! ### A row of neighbours, turned -/
def atT (k T i : Nat) : Nat := if i + T < k then i + T else i + T - k
def posT (k T x : Nat) : Nat := if T ≤ x then x - T else x + k - T
def chM (k T j : Nat) : Nat → Nat → Bool := fun x y => decide (x < k ∧ y < k ∧ posT k T x + 1 = posT k T y ∧ posT k T x < j)
def ltM (k T : Nat) : Nat → Nat → Bool := fun x y => decide (x < k ∧ y < k ∧ posT k T x < posT k T y)
def allM (k : Nat) : Nat → Nat → Bool := fun x y => decide (x < k ∧ y < k)
section
variable {k T : Nat}
theorem at_mod {t i : Nat} (hk : 0 < k) (hi : i < k) : (i + t) % k = atT k (t % k) i := by
  have ht := Nat.mod_lt t hk
  have e : (i + t) % k = (i + t % k) % k := by rw [Nat.add_mod, Nat.mod_eq_of_lt hi]
  rw [e]
  unfold atT
  by_cases h : i + t % k < k
  · rw [if_pos h, Nat.mod_eq_of_lt h]
  · rw [if_neg h, Nat.mod_eq_sub_mod (by omega), Nat.mod_eq_of_lt (by omega)]
theorem at_lt (hT : T < k) {i : Nat} (hi : i < k) : atT k T i < k := by unfold atT; split <;> omega
theorem pos_lt (hT : T < k) {x : Nat} (hx : x < k) : posT k T x < k := by unfold posT; split <;> omega
theorem pos_at (hT : T < k) {i : Nat} (hi : i < k) : posT k T (atT k T i) = i := by unfold atT posT; split <;> split <;> omega
theorem at_pos (hT : T < k) {x : Nat} (hx : x < k) : atT k T (posT k T x) = x := by unfold atT posT; split <;> split <;> omega
theorem pos_inj (hT : T < k) {x y : Nat} (hx : x < k) (hy : y < k) (h : posT k T x = posT k T y) : x = y := by rw [← at_pos hT hx, h, at_pos hT hy]
theorem ch_add (hT : T < k) {j : Nat} (hj : j + 1 < k) : addM (chM k T j) k (atT k T j : Nat) (atT k T (j + 1) : Nat) = chM k T (j + 1) := by
  funext x y
  unfold addM chM
  rw [Bool.eq_iff_iff, Bool.or_eq_true, decide_eq_true_eq, decide_eq_true_eq, decide_eq_true_eq]
  have a1 := pos_at hT (i := j) (by omega)
  have a2 := pos_at hT (i := j + 1) (by omega)
  constructor
  · rintro (⟨h1, h2, h3, h4⟩ | ⟨h1, h2, h3, h4⟩)
    · exact ⟨h1, h2, h3, by omega⟩
    · have e1 : x = atT k T j := by omega
      have e2 : y = atT k T (j + 1) := by omega
      rw [e1, e2, a1, a2]
      exact ⟨by omega, by omega, rfl, by omega⟩
  · rintro ⟨h1, h2, h3, h4⟩
    by_cases e : posT k T x < j
    · exact .inl ⟨h1, h2, h3, e⟩
    · have e1 : posT k T x = j := by omega
      have e2 : posT k T y = j + 1 := by omega
      have e3 := at_pos hT h1
      have e4 := at_pos hT h2
      rw [e1] at e3; rw [e2] at e4
      exact .inr ⟨by omega, by omega, h1, h2⟩
theorem ch_sup {j : Nat} : Sup (chM k T j) k := fun x y h => by unfold chM; exact decide_eq_false (by omega)
theorem lt_tr : Tr (ltM k T) := fun x y z h1 h2 => by
  unfold ltM at *
  rw [decide_eq_true_eq] at *
  omega
theorem clo_ch (hT : T < k) : clo (chM k T (k - 1)) k = ltM k T := by
  funext x y
  rw [Bool.eq_iff_iff]
  constructor
  · intro h
    refine clo_least ch_sup lt_tr (fun a b hab => ?_) h
    unfold chM at hab; unfold ltM
    rw [decide_eq_true_eq] at *
    omega
  · intro h
    rw [clo_way ch_sup]
    unfold ltM at h
    rw [decide_eq_true_eq] at h
    obtain ⟨hx, hy, h⟩ := h
    have key : ∀ d x, x < k → posT k T y = posT k T x + d + 1 → Way (chM k T (k - 1)) k x y := by
      intro d
      induction d with
      | zero =>
        intro x hx h
        have := pos_lt hT hy
        exact .one (by unfold chM; rw [decide_eq_true_eq]; omega)
      | succ d ih =>
        intro x hx h
        have h1 := pos_lt hT hy
        have hz := at_lt hT (i := posT k T x + 1) (by omega)
        have pz := pos_at hT (i := posT k T x + 1) (by omega)
        refine .two (.one ?_) hz (ih _ hz (by rw [pz]; omega))
        unfold chM; rw [decide_eq_true_eq, pz]; omega
    exact key (posT k T y - posT k T x - 1) x hx (by omega)
theorem ltM_iff {x y : Nat} : ltM k T x y = true ↔ x < k ∧ y < k ∧ posT k T x < posT k T y := by unfold ltM; rw [decide_eq_true_eq]
theorem filt_one {z : Nat} : ∀ k, z < k → ((List.range k).filter fun b => decide (b = z)).length = 1
  | 0, h => absurd h (Nat.not_lt_zero _)
  | k + 1, h => by
    rw [List.range_succ, List.filter_append, List.length_append]
    by_cases e : k = z
    · have h1 : (List.range k).filter (fun b => decide (b = z)) = [] := List.filter_eq_nil_iff.2 fun b hb => by
        simp at hb ⊢; omega
      rw [h1, List.filter_cons_of_pos (by simpa using e)]; rfl
    · rw [filt_one k (by omega), List.filter_cons_of_neg (by simpa using e)]; rfl
theorem sum_but {c : Nat} (h : c < k) : ((List.range k).map fun a => if a = c then 0 else 1).sum = k - 1 := by
  have h1 : ((List.range k).map fun t => (if t = c then 0 else 1) + if c = t then 1 else 0).sum = ((List.range k).map fun a => if a = c then 0 else 1).sum + 1 := by
    have := sum_add1 (g := fun a => if a = c then 0 else 1) (a := c) k
    rw [if_pos h] at this; exact this
  have h2 : (fun t : Nat => (if t = c then 0 else 1) + if c = t then 1 else 0) = fun _ => 1 := by
    funext t
    by_cases e : t = c
    · rw [if_pos e, if_pos e.symm]
    · rw [if_neg e, if_neg (fun g => e g.symm)]
  have h3 : ∀ m, ((List.range m).map fun _ => 1).sum = m := by
    intro m
    induction m with
    | zero => rfl
    | succ m ih => rw [List.range_succ, List.map_append, List.sum_append, ih]; rfl
  rw [h2, h3] at h1
  omega
theorem lt_one (_ : T < k) {x y : Nat} (h : oneM (ltM k T) x y = true) : x = y := by
  rcases oneM_iff.1 h with h | ⟨h1, h2⟩
  · exact h
  · unfold ltM at h1 h2; rw [decide_eq_true_eq] at h1 h2; omega
theorem lt_hds (hT : T < k) : hdsM (ltM k T) k = List.range k := by
  unfold hdsM els
  refine List.filter_eq_self.2 fun x _ => fstM_iff.2 fun b hb => ?_
  cases e : oneM (ltM k T) x b with
  | false => rfl
  | true => have := lt_one hT e; omega
theorem lt_tot (hT : T < k) : totB (ltM k T) k = true := by
  rw [totB_iff]
  refine ⟨fun a _ => by unfold ltM; exact decide_eq_false (by omega), fun a ha b hb => ?_⟩
  rcases Nat.lt_trichotomy (posT k T a) (posT k T b) with h | h | h
  · exact .inr (.inl (by unfold ltM; exact decide_eq_true ⟨ha, hb, h⟩))
  · exact .inl (pos_inj hT ha hb h)
  · exact .inr (.inr (by unfold ltM; exact decide_eq_true ⟨hb, ha, h⟩))
/-- What grows strictly below its length stands still. -/
theorem grow_id {f : Nat → Nat} (hf : ∀ i j, i < j → j < k → f i < f j) (hb : ∀ i, i < k → f i < k) : ∀ i, i < k → f i = i := by
  have h1 : ∀ i, i < k → i ≤ f i := by
    intro i
    induction i with
    | zero => intro _; omega
    | succ i ih => intro h; have := ih (by omega); have := hf i (i + 1) (by omega) h; omega
  have h2 : ∀ d i, i + d + 1 = k → f i ≤ i := by
    intro d
    induction d with
    | zero => intro i h; have := hb i (by omega); omega
    | succ d ih => intro i h; have := ih (i + 1) (by omega); have := hf i (i + 1) (by omega) (by omega); omega
  intro i hi
  have := h1 i hi
  have := h2 (k - i - 1) i (by omega)
  omega
theorem lt_srt (hT : T < k) : srt (ltM k T) k = (List.range k).map (atT k T) := by
  obtain ⟨h1, h2, h3, h4⟩ := srt_spec (lt_tr (k := k) (T := T)) (n := k)
  refine List.ext_getElem (by simpa using h4) fun i hi hi' => ?_
  have hik : i < k := by simpa using hi'
  simp only [List.getElem_map, List.getElem_range]
  have hlt : ∀ j (hj : j < (srt (ltM k T) k).length), (srt (ltM k T) k)[j] < k := fun j hj => (h1 _).1 (List.getElem_mem hj)
  have := grow_id (k := k) (f := fun j => if h : j < (srt (ltM k T) k).length then posT k T ((srt (ltM k T) k)[j]) else 0) (fun a b hab hb => ?_) (fun a ha => ?_) i hik
  · rw [dif_pos hi] at this
    rw [← at_pos hT (hlt i hi), this]
  · have ha' : a < (srt (ltM k T) k).length := by omega
    have hb' : b < (srt (ltM k T) k).length := by omega
    rw [dif_pos ha', dif_pos hb']
    have hp := List.pairwise_iff_getElem.1 h3 a b ha' hb' hab
    have hne : posT k T (srt (ltM k T) k)[a] ≠ posT k T (srt (ltM k T) k)[b] := fun e => by
      have := nodup_inj h2 ha' hb' (pos_inj hT (hlt _ _) (hlt _ _) e); omega
    have g1 := hlt a ha'
    have g2 := hlt b hb'
    apply Classical.byContradiction
    intro hno
    refine hp ⟨ltM_iff.2 ⟨g2, g1, by omega⟩, ?_⟩
    cases e : ltM k T (srt (ltM k T) k)[a] (srt (ltM k T) k)[b] with
    | false => rfl
    | true => have := ltM_iff.1 e; omega
  · have ha' : a < (srt (ltM k T) k).length := by omega
    rw [dif_pos ha']
    exact pos_lt hT (hlt a ha')
theorem lt_redB (hT : T < k) {a b : Nat} (ha : a < k) (hb : b < k) : redB (ltM k T) (List.range k) a b = decide (posT k T a + 1 = posT k T b) := by
  rw [Bool.eq_iff_iff, decide_eq_true_eq]
  unfold redB
  simp only [Bool.and_eq_true, Bool.not_eq_true', List.any_eq_false, List.mem_range, decide_eq_true_eq]
  constructor
  · rintro ⟨⟨hne, h1⟩, h2⟩
    unfold ltM at h1; rw [decide_eq_true_eq] at h1
    apply Classical.byContradiction
    intro hno
    have hlt := pos_lt hT hb
    have hz := at_lt hT (i := posT k T a + 1) (by omega)
    have pz := pos_at hT (i := posT k T a + 1) (by omega)
    refine h2 _ hz ?_
    unfold betw ltM
    simp only [Bool.and_eq_true, decide_eq_true_eq]
    refine ⟨⟨fun e => ?_, ha, hz, by omega⟩, fun e => ?_, hz, hb, by omega⟩
    · rw [← e] at pz; omega
    · rw [e] at pz; omega
  · intro h
    refine ⟨⟨fun e => by subst e; omega, by unfold ltM; exact decide_eq_true ⟨ha, hb, by omega⟩⟩, fun z hz hbt => ?_⟩
    unfold betw ltM at hbt
    simp only [Bool.and_eq_true, decide_eq_true_eq] at hbt
    omega
theorem lt_red (hT : T < k) : (red (ltM k T) k).length = k - 1 := by
  unfold red
  rw [lt_hds hT, List.length_flatMap]
  have e : ∀ a, a < k → (redRow (ltM k T) (List.range k) a (List.range k)).length = if a = atT k T (k - 1) then 0 else 1 := by
    intro a ha
    unfold redRow
    rw [List.length_map]
    have hf : (List.range k).filter (redB (ltM k T) (List.range k) a) = (List.range k).filter fun b => decide (posT k T a + 1 = posT k T b) := List.filter_congr fun b hb => lt_redB hT ha (by simpa using hb)
    rw [hf]
    have hl := pos_lt hT ha
    by_cases h : a = atT k T (k - 1)
    · rw [if_pos h]
      have pa : posT k T a = k - 1 := by rw [h]; exact pos_at hT (by omega)
      rw [List.length_eq_zero_iff, List.filter_eq_nil_iff]
      intro b hb h'
      have := pos_lt hT (x := b) (by simpa using hb)
      rw [decide_eq_true_eq] at h'; omega
    · rw [if_neg h]
      have pa : posT k T a + 1 < k := by
        apply Classical.byContradiction
        intro hno
        have : posT k T a = k - 1 := by omega
        exact h (by rw [← this, at_pos hT ha])
      have hz := at_lt hT pa
      have pz := pos_at hT pa
      have hq : (List.range k).filter (fun b => decide (posT k T a + 1 = posT k T b)) = (List.range k).filter fun b => decide (b = atT k T (posT k T a + 1)) := List.filter_congr fun b hb => by
        rw [decide_eq_decide]
        constructor
        · intro e; rw [e]; exact (at_pos hT (by simpa using hb)).symm
        · intro e; rw [e, pz]
      rw [hq]
      exact filt_one k hz
  rw [← sum_but (k := k) (c := atT k T (k - 1)) (at_lt hT (by omega))]
  congr 1
  exact List.map_congr_left fun a ha => e a (by simpa using ha)
/-! ### The ring -/
theorem all_clo (hT : T < k) (h1 : 1 < k) : clo (addM (chM k T (k - 1)) k (atT k T (k - 1) : Nat) (atT k T 0 : Nat)) k = allM k := by
  have hs : Sup (addM (chM k T (k - 1)) k (atT k T (k - 1) : Nat) (atT k T 0 : Nat)) k := addM_sup ch_sup
  have hmono : ∀ x y, chM k T (k - 1) x y = true → addM (chM k T (k - 1)) k (atT k T (k - 1) : Nat) (atT k T 0 : Nat) x y = true := fun x y h => by unfold addM; rw [h]; rfl
  have hlt : ∀ x y, ltM k T x y = true → clo (addM (chM k T (k - 1)) k (atT k T (k - 1) : Nat) (atT k T 0 : Nat)) k x y = true := fun x y h => by
    rw [← clo_ch hT] at h
    exact clo_least ch_sup (clo_tr hs) (fun a b hab => (clo_way hs a b).2 (.one (hmono a b hab))) h
  have hback : clo (addM (chM k T (k - 1)) k (atT k T (k - 1) : Nat) (atT k T 0 : Nat)) k (atT k T (k - 1)) (atT k T 0) = true :=
    (clo_way hs _ _).2 (.one (by unfold addM; rw [decide_eq_true ⟨rfl, rfl, at_lt hT (by omega), at_lt hT (by omega)⟩]; simp))
  have pl := pos_at hT (i := k - 1) (by omega)
  have p0 := pos_at hT (i := 0) (by omega)
  have tr := clo_tr hs
  funext x y
  rw [Bool.eq_iff_iff]
  constructor
  · intro h
    have := (clo_sup hs).lt h
    unfold allM; exact decide_eq_true this
  · intro h
    unfold allM at h; rw [decide_eq_true_eq] at h
    have hx : x = atT k T (k - 1) ∨ ltM k T x (atT k T (k - 1)) = true := by
      by_cases e : posT k T x = k - 1
      · exact .inl (by rw [← e, at_pos hT h.1])
      · have := pos_lt hT h.1
        exact .inr (ltM_iff.2 ⟨h.1, at_lt hT (by omega), by omega⟩)
    have hy : y = atT k T 0 ∨ ltM k T (atT k T 0) y = true := by
      by_cases e : posT k T y = 0
      · exact .inl (by rw [← e, at_pos hT h.2])
      · exact .inr (ltM_iff.2 ⟨at_lt hT (by omega), h.2, by omega⟩)
    have h2 : clo (addM (chM k T (k - 1)) k (atT k T (k - 1) : Nat) (atT k T 0 : Nat)) k x (atT k T 0) = true := by
      rcases hx with e | e
      · rw [e]; exact hback
      · exact tr _ _ _ (hlt _ _ e) hback
    rcases hy with e | e
    · rw [e]; exact h2
    · exact tr _ _ _ h2 (hlt _ _ e)
theorem all_hds (h1 : 0 < k) : hdsM (allM k) k = [0] := by
  unfold hdsM els
  have e : (List.range k).filter (fstM (allM k)) = (List.range k).filter fun b => decide (b = 0) := List.filter_congr fun b hb => by
    have hb : b < k := by simpa using hb
    rw [Bool.eq_iff_iff, fstM_iff, decide_eq_true_eq]
    constructor
    · intro h
      apply Classical.byContradiction
      intro hne
      have := h 0 (by omega)
      rw [oneM_iff.2 (.inr ⟨by unfold allM; exact decide_eq_true ⟨hb, by omega⟩, by unfold allM; exact decide_eq_true ⟨by omega, hb⟩⟩)] at this
      cases this
    · intro h c hc; omega
  rw [e]
  have hl := filt_one (z := 0) k h1
  obtain ⟨a, ha⟩ := List.length_eq_one_iff.1 hl
  rw [ha]
  have : a ∈ (List.range k).filter fun b => decide (b = 0) := by rw [ha]; simp
  have := (List.mem_filter.1 this).2
  rw [decide_eq_true_eq] at this
  rw [this]
theorem all_crc (h1 : 0 < k) : crc (allM k) k = [List.range k] := by
  unfold crc
  rw [all_hds h1, List.map_cons, List.map_nil]
  congr 1
  unfold clsM els
  refine List.filter_eq_self.2 fun x hx => ?_
  have hx : x < k := by simpa using hx
  rw [oneM_iff.2 (.inr ⟨by unfold allM; exact decide_eq_true ⟨h1, hx⟩, by unfold allM; exact decide_eq_true ⟨hx, h1⟩⟩)]
  simp
theorem all_ord (h1 : 0 < k) : ordB (allM k) k = false := by
  rw [← Bool.not_eq_true, ordB_iff]
  intro h
  have := h 0 h1
  unfold allM at this
  rw [decide_eq_true ⟨h1, h1⟩] at this; cases this
theorem all_red (h1 : 0 < k) : red (allM k) k = [] := by
  unfold red
  rw [all_hds h1]
  simp [redRow, redB]
end
theorem orderRows_law {n turn : Int} {H : Hp} (hn : (Lit.int .u8 n).wf = true) (ht : (Lit.int .u8 turn).wf = true) (hT : Tz H) : centolaw3_OrderRows.C n turn H fun r H' => r = true ∧ Le H H' := by
  apply centolaw3_OrderRows.of
  obtain ⟨n0, n1, e1, _, e3⟩ := cap_mod hn (k := 30) (by decide)
  obtain ⟨t0, t1, _⟩ := cap_mod ht (k := 30) (by decide)
  have e1' : Int.tmod n 30 = ((n.toNat % 30 : Nat) : Int) := e1
  obtain ⟨t, rfl⟩ : ∃ t : Nat, turn = t := ⟨turn.toNat, by omega⟩
  refine centolaw3_known.c hT fun H0 le0 => ?_
  refine bcF ?_
  refine ⟨by decide, ?_⟩
  rw [e1']
  refine chk (by omega) ?_
  obtain ⟨k, hk⟩ : ∃ k : Nat, ((n.toNat % 30 : Nat) : Int) + 2 = k := ⟨n.toNat % 30 + 2, by omega⟩
  rw [hk]
  have hk2 : 2 ≤ k := by omega
  have hk32 : k ≤ 32 := by omega
  refine chk (by omega) ?_
  refine rel_New.c (hT.le le0) fun R O H1 u1 hO le1 => ?_
  rw [show (min (max (k : Int) 0) 200).toNat = k by omega] at u1
  refine mk rfl (by omega) (by omega) ?_
  intro b hb
  have le2 : Le H1 (upd H1 b (rep k [.int .i64 (0 : Int)])) := .upd hb
  have p2 : PFn (upd H1 b (rep k [.int .i64 (0 : Int)])) b k (fun _ => 0) := fun x hx => by rw [rd_rep hx]; rfl
  have bO : b ∉ O := fun h => u1.there _ h hb
  have hT' : t % k < k := Nat.mod_lt t (by omega)
  have hat : ∀ i, i < k → Int.tmod ((i : Int) + (t : Int)) (k : Int) = ((atT k (t % k) i : Nat) : Int) := fun i hi => by
    rw [tmodN (by omega), ← at_mod (by omega) hi]
    congr 2
  generalize t % k = T at *
  generalize upd H1 b (rep k [.int .i64 (0 : Int)]) = H2 at *
  have le02 := (le0.trans le1).trans le2
  have fb : H b = none := none_of_le (le0.trans le1) hb
  refine ⟨fun i Hx => ∃ i' : Nat, i = i' ∧ i' ≤ k ∧ Mod [b] H2 Hx ∧ PFn Hx b k (fun x => if x < i' then atT k T x else 0), fun i _ => (k - i).toNat, ⟨0, rfl, by omega, .refl, fun x hx => by rw [p2 x hx]; rfl⟩, ?_⟩
  rintro i Hx ⟨i, rfl, hi, mx, px⟩
  refine bcd (fun h => ?_) (fun h => ?_)
  · have hik : i < k := by omega
    refine chk (by omega) (chk (by omega) ⟨by omega, ?_⟩)
    rw [hat i hik]
    refine idxN i rfl hik (st0 (px i hik) (chk (by omega) ⟨⟨i + 1, by omega, by omega, mx.wr (.inl (by simp)), ?_⟩, by first | omega | (dsimp only; omega)⟩))
    refine px.put hik fun y hy => ?_
    by_cases e : y = i
    · subst e; simp
    · rw [if_neg e]
      by_cases h : y < i
      · rw [if_pos h, if_pos (by omega)]
      · rw [if_neg h, if_neg (by omega)]
  · obtain rfl : i = k := by omega
    have px : PFn Hx b i (atT i T) := fun x hx => by rw [px x hx]; simp only [if_pos hx]
    have leX : Le H1 Hx := mx.le le2 (none1 hb)
    have uX := u1.le leX
    have e0 : chM i T 0 = fun _ _ => false := by funext x y; unfold chM; exact decide_eq_false (by omega)
    rw [← e0] at uX
    refine ⟨fun j Hy => ∃ j' : Nat, j = j' ∧ j' + 1 ≤ i ∧ Mod O Hx Hy ∧ RLO Hy R O i (chM i T j'), fun j _ => (i - j).toNat, ⟨0, rfl, by omega, .refl, uX⟩, ?_⟩
    rintro j Hy ⟨j, rfl, hj, my, uy⟩
    have py : PFn Hy b i (atT i T) := fun x hx => my.rd bO (px x hx)
    refine chk (by omega) ?_
    refine bcd (fun h => ?_) (fun h => ?_)
    · refine idxN j rfl (by omega) (ldI_i (by rw [Nat.zero_add]; exact py j (by omega)) ?_)
      refine chk (by omega) ?_
      refine idxN (j + 1) (by omega) (by omega) (ldI_i (by rw [Nat.zero_add]; exact py (j + 1) (by omega)) ?_)
      refine rel_Rel_Add.c uy fun H3 u3 m3 => ?_
      rw [ch_add hT' (by omega)] at u3
      exact chk (by omega) ⟨⟨j + 1, by omega, by omega, my.trans m3, u3⟩, by first | omega | (dsimp only; omega)⟩
    · obtain rfl : j = i - 1 := by omega
      have leHy : Le H Hy := my.le (((le0.trans le1).trans leX)) fun x hx => none_of_le le0 (hO x hx)
      have hTr := lt_tr (k := i) (T := T)
      have ec := clo_ch hT'
      refine order_Sort.c uy.rn (by omega) fun p4 l4 c4 H4 s4 le4 => ?_
      rw [ec, lt_srt hT'] at s4
      refine order_Reduce.c (uy.le le4).rn (by omega) fun p5 l5 c5 H5 s5 _ _ le5 => ?_
      rw [ec] at s5
      have h5 := s5.len
      rw [lt_red hT'] at h5
      subst h5
      have u5 := uy.le (le4.trans le5)
      have p5' : PFn H5 b i (atT i T) := fun x hx => (le4.trans le5).rd (py x hx)
      have leH5 := leHy.trans (le4.trans le5)
      refine rel_Rel_Copy.c u5 fun R6 O6 H6 u6 hO6 le6 => ?_
      refine chk (by omega) ?_
      refine idxN (i - 1) (by omega) (by omega) (ldI_i (by rw [Nat.zero_add]; exact le6.rd (p5' _ (by omega))) ?_)
      refine idxN 0 rfl (by omega) (ldI_i (by rw [Nat.zero_add]; exact le6.rd (p5' _ (by omega))) ?_)
      refine rel_Rel_Add.c u6 fun H7 u7 m7 => ?_
      have le57 : Le H5 H7 := m7.le le6 hO6
      have er := all_clo hT' (by omega)
      refine order_Circles.c u7.rn fun p8 l8 c8 H8 s8 le8 => ?_
      rw [er, all_crc (by omega)] at s8
      have h8 := s8.len
      simp at h8
      subst h8
      have le58 := le57.trans le8
      refine centolaw3_same.c (s4.le (le5.trans le58)) (PFn.sl (c := i) (fun x hx => le58.rd (p5' x hx)) (Nat.le_refl _)) (by simp; omega) ?_
      rw [decide_eq_true rfl]
      refine bcT (order_IsTotal.c (u5.le le58).rn (by omega) fun H9 le9 => ?_)
      rw [ec, lt_tot hT']
      refine bcT (chk (by omega) ?_)
      refine bcd (fun _ => ?_) fun h => absurd (by omega) h
      have u9 := u5.le (le58.trans le9)
      refine order_Circles.c u9.rn fun p10 l10 c10 H10 s10 le10 => ?_
      rw [ec] at s10
      have h10 := s10.len
      rw [crc_len, lt_hds hT', List.length_range] at h10
      subst h10
      refine bcd (fun _ => ?_) fun h => absurd rfl h
      refine bcd (fun _ => ?_) fun h => absurd rfl h
      refine (s8.le (le9.trans le10)).at (k := 0) rfl (by simp) fun q lq cq hq _ _ => ?_
      have hlq := hq.len
      simp at hlq
      subst hlq
      refine bcd (fun _ => ?_) fun h => absurd rfl h
      have u10 := u7.le ((le8.trans le9).trans le10)
      refine order_IsOrder.c u10.rn (by omega) fun H11 le11 => ?_
      rw [er, all_ord (by omega)]
      refine bcT (order_Reduce.c (u10.le le11).rn (by omega) fun p12 l12 c12 H12 s12 _ _ le12 => ?_)
      rw [er, all_red (by omega)] at s12
      have h12 := s12.len
      simp at h12
      subst h12
      exact ⟨by decide, leH5.trans ((le58.trans le9).trans ((le10.trans le11).trans le12))⟩

set_option maxRecDepth 100000 in
theorem orderRows_lifted (os : Os) (started : os.Started) (H : Type) (enc : TypeId × Value → H) :
    ReturnsInHanded {} Tryd.checked os 11 .any (fun w args => (Rows.orderRowsSpec.pre enc Tryd.prog Tryd.f11 [] false w args ∧ laidMetH Tryd.prog laidTz w) ∧ sizedMet enc Tryd.prog Tryd.f11 (OpenSpec.ofChange Rows.orderRowsSpec) false w args)
      (Rows.orderRowsSpec.post enc Tryd.prog Tryd.f11 false true false false) := by
  refine returnsInHanded_of_change_and (C := Tryd.checked) (X := fun w _ => laidMetH Tryd.prog laidTz w) (fun _ _ _ hh h => h.of_heap hh) Tryd.own started (by kernel_rfl) Tryd.func11
    (ChangeSpec.witness_shaped (enc := enc) (C := Tryd.checked) (os := os) (X := fun w _ => laidMetH Tryd.prog laidTz w) false (World.doorLaid Tryd.prog 400 os) #[.int .u8 0, .int .u8 0] 8 rfl (World.shaped_of_RefB (by kernel_rfl) (by kernel_rfl)) (by kernel_rfl) (by kernel_rfl) (by kernel_rfl) (door_met os _)) ?_
  intro W base args ds gs before hval0 hW _ _ hL _
  have hval : ∀ (j : Nat) t v, Tryd.f11.params[j]? = some t → args[j]? = some v → Value.okWide Tryd.prog W .any base t v := hval0
  have hW' := hW
  obtain ⟨p, q, hA0, hV, rfl, hfz, hnd⟩ := hW
  have hA : DataW.TrodAll enc Tryd.prog W 0 (fun _ => true) true Tryd.f11.params.toList args.toList ds p := hA0
  rw [Tryd.params11] at hA hval
  obtain ⟨v0, v1, d0, d1, p0, p1, rfl, rfl, rfl, h0, h1⟩ := trodAll_two hA
  obtain ⟨x0, rfl, rfl, rfl, w0⟩ := open_int Tryd.underlying5 (hval 0 5 v0 rfl rfl) h0
  obtain ⟨x1, rfl, rfl, rfl, w1⟩ := open_int Tryd.underlying5 (hval 1 5 v1 rfl rfl) h1
  refine (calls_true (CallH.true (orderRows_law w0 w1 (tz_of_laid hL)))).mono fun e W' ⟨he, hk⟩ => ?_
  subst he
  exact ⟨_, rfl, post_true Tryd.laidOut hW' (by kernel_rfl) rfl rfl rfl Tryd.underlying4 hk⟩

theorem orderRows_row : Rows.OrderRowsSaid :=
  OpenClaim.holds_of_wide 11 Tryd.f11 rfl rfl rfl rfl rfl rfl rfl ⟨rfl, rfl, rfl, rfl, rfl⟩ rfl rfl rfl rfl rfl (by kernel_rfl) Tryd.func11 (by kernel_rfl)
    (of_decide_eq_true (by kernel_rfl)) (by unfold Func.isWrapper; first | (rw [if_pos (by decide +kernel)]; kernel_rfl) | (rw [if_neg (by decide +kernel)]; exact ⟨rfl, rfl⟩))
    (fun os started H enc _ => orderRows_lifted os started H enc)

theorem orderRows_card : Rows.OrderRowsCardSaid :=
  Claim7.holds_tied_plain_at .later [] [.data] true (true, "f14aac9e52d846e16b45683151c3010fb29280cfdf5c2d90c2c3a166c41e4a9f") false
    orderRows_row (fun _ h => by cases h) (by kernel_rfl) (fun _ h => by cases h) orderRows_row_tie rfl ⟨rfl, rfl⟩ (by kernel_rfl) rfl
    (fun f fn hf hfn => by
      obtain rfl : f = 11 := Option.some.inj ((show Tryd.prog.funcNamed Rows.orderRowsRow.func = some 11 by kernel_rfl).symm.trans hf) |>.symm
      obtain rfl : fn = Tryd.f11 := (Option.some.inj (Tryd.func11.symm.trans hfn)).symm
      exact ⟨by kernel_rfl, fun j t ht => by
        rw [Tryd.params11] at ht
        have hm : t ∈ [5] := by
          have := Array.mem_of_getElem? ht
          simp at this
          first | (rcases this with rfl | rfl <;> simp) | simp [this]
        have hall : ([5].all fun u => !Tryd.prog.wantsStandIn u) = true := by kernel_rfl
        exact (show Tryd.prog.wantsStandIn t = false by simpa using List.all_eq_true.1 hall t hm)⟩)
    (by kernel_rfl)
end Go.Proofs.YtcmooaimhloonaaDoor
