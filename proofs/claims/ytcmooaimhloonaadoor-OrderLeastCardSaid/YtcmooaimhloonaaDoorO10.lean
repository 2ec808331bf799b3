/- For every input OrderSorted returns true, and what came in reads as it did: tied to the table of math/bits. -/
import Derived.Test.YtcmooaimhloonaaDoorO9
import Derived.Test.YtcmooaimhloonaaDoorBT
import Derived.Test.YtcmooaimhloonaaDoorVcOpen
namespace Go.Proofs.YtcmooaimhloonaaDoor
open Go.V
open Go.ChangeShapes Go.WideShapes Go.ChangeAt Go.RowKit Go.WideElems Go.WideMaps
theorem filter_lt {α : Type} {p q : α → Bool} : ∀ {l : List α}, (∀ x ∈ l, p x = true → q x = true) → (∃ x ∈ l, q x = true ∧ p x = false) → (l.filter p).length < (l.filter q).length
  | [], _, h => by obtain ⟨x, hx, _⟩ := h; cases hx
  | a :: l, h, hex => by
    have hle : ∀ l' : List α, (∀ x ∈ l', p x = true → q x = true) → (l'.filter p).length ≤ (l'.filter q).length := by
      intro l'
      induction l' with
      | nil => intro _; exact Nat.le_refl _
      | cons b l' ih =>
        intro h
        have ih := ih fun x hx => h x (List.mem_cons_of_mem _ hx)
        cases hp : p b with
        | true => rw [List.filter_cons_of_pos hp, List.filter_cons_of_pos (h b (by simp) hp)]; simp; exact ih
        | false =>
          rw [List.filter_cons_of_neg (by simp [hp])]
          cases hq : q b with
          | true => rw [List.filter_cons_of_pos hq]; simp; omega
          | false => rw [List.filter_cons_of_neg (by simp [hq])]; exact ih
    have htl : ∀ x ∈ l, p x = true → q x = true := fun x hx => h x (List.mem_cons_of_mem _ hx)
    obtain ⟨x, hx, h1, h2⟩ := hex
    rcases List.mem_cons.1 hx with rfl | hx
    · rw [List.filter_cons_of_pos h1, List.filter_cons_of_neg (by simp [h2])]
      have := hle l htl
      simp; omega
    · have ih := filter_lt htl ⟨x, hx, h1, h2⟩
      cases hp : p a with
      | true => rw [List.filter_cons_of_pos hp, List.filter_cons_of_pos (h a (by simp) hp)]; simp; exact ih
      | false =>
        rw [List.filter_cons_of_neg (by simp [hp])]
        cases hq : q a with
        | true => rw [List.filter_cons_of_pos hq]; simp; omega
        | false => rw [List.filter_cons_of_neg (by simp [hq])]; exact ih
theorem heads_apart {M : Nat → Nat → Bool} {g h : Nat} (hg : fstM M g = true) (hh : fstM M h = true) (h1 : M g h = true) (h2 : M h g = true) : g = h := by
  rcases Nat.lt_trichotomy g h with e | e | e
  · have := fstM_iff.1 hh g e; rw [oneM_iff.2 (.inr ⟨h2, h1⟩)] at this; cases this
  · exact e
  · have := fstM_iff.1 hg h e; rw [oneM_iff.2 (.inr ⟨h1, h2⟩)] at this; cases this
/-- Someone is free. -/
theorem some_free {M : Nat → Nat → Bool} (hT : Tr M) {rem : List Nat} (hf : ∀ x ∈ rem, fstM M x = true) : ∀ (k h : Nat), h ∈ rem → (rem.filter fun g => decide (g ≠ h) && M g h).length = k → ∃ x, x ∈ rem ∧ freeL M rem x = true := by
  intro k
  induction k using Nat.strongRecOn with
  | _ k ih =>
    intro h hh hk
    cases e : freeL M rem h with
    | true => exact ⟨h, hh, e⟩
    | false =>
      unfold freeL at e
      rw [List.all_eq_false] at e
      obtain ⟨g, hg, hgh⟩ := e
      have hne : g ≠ h := fun e => hgh (by simp [e])
      have hM : M g h = true := by
        cases hm : M g h with
        | true => rfl
        | false => exact absurd (by simp [hm]) hgh
      refine ih _ ?_ g hg rfl
      rw [← hk]
      refine filter_lt (fun x hx hp => ?_) ⟨g, hg, by simp [hne, hM], by simp⟩
      simp only [Bool.and_eq_true, decide_eq_true_eq] at hp ⊢
      refine ⟨fun e => hne ?_, hT _ _ _ hp.2 hM⟩
      subst e
      exact heads_apart (hf _ hg) (hf _ hh) hM hp.2
theorem find_free {M : Nat → Nat → Bool} (hT : Tr M) {rem : List Nat} (hf : ∀ x ∈ rem, fstM M x = true) (hne : rem ≠ []) : ∃ h, rem.find? (freeL M rem) = some h := by
  cases e : rem.find? (freeL M rem) with
  | some h => exact ⟨h, rfl⟩
  | none =>
    obtain ⟨h, hh⟩ := List.exists_mem_of_ne_nil rem hne
    obtain ⟨x, hx, h1⟩ := some_free hT hf _ h hh rfl
    exact absurd h1 (List.find?_eq_none.1 e x hx)
/-- What the row is made of. -/
theorem srtS_spec {M : Nat → Nat → Bool} (hT : Tr M) {n : Nat} : ∀ (k : Nat) (rem : List Nat), rem.length = k → (∀ x ∈ rem, x < n ∧ fstM M x = true) → rem.Nodup →
    (∀ x, x ∈ srtS M n k rem ↔ ∃ g ∈ rem, x ∈ clsM M n g) ∧ (srtS M n k rem).Nodup ∧ (srtS M n k rem).Pairwise (fun x y => ¬ (M y x = true ∧ M x y = false)) ∧ (srtS M n k rem).length = ((rem.map (clsM M n)).map List.length).sum
  | 0, rem, hk, _, _ => by
    have e : rem = [] := List.length_eq_zero_iff.1 hk
    subst e
    simp [srtS]
  | k + 1, rem, hk, hf, hnd => by
    have hf' : ∀ x ∈ rem, fstM M x = true := fun x hx => (hf x hx).2
    obtain ⟨h, hfind⟩ := find_free hT hf' (fun e => by subst e; simp at hk)
    have hmem := List.mem_of_find?_eq_some hfind
    have hfree := List.find?_some hfind
    have hle := List.length_erase_of_mem hmem
    have hmem2 : ∀ x, x ∈ rem.erase h ↔ x ≠ h ∧ x ∈ rem := fun x => hnd.mem_erase_iff
    obtain ⟨i1, i2, i3, i4⟩ := srtS_spec hT k (rem.erase h) (by omega) (fun x hx => hf x ((hmem2 x).1 hx).2) (hnd.erase h)
    have e : srtS M n (k + 1) rem = clsM M n h ++ srtS M n k (rem.erase h) := by rw [srtS, hfind]
    rw [e]
    refine ⟨fun x => ?_, List.nodup_append.2 ⟨?_, i2, fun x hx y hy e => ?_⟩, List.pairwise_append.2 ⟨?_, i3, fun x hx y hy => ?_⟩, ?_⟩
    · rw [List.mem_append, i1]
      constructor
      · rintro (h1 | ⟨g, hg, h1⟩)
        · exact ⟨h, hmem, h1⟩
        · exact ⟨g, ((hmem2 g).1 hg).2, h1⟩
      · rintro ⟨g, hg, h1⟩
        by_cases e : g = h
        · subst e; exact .inl h1
        · exact .inr ⟨g, (hmem2 g).2 ⟨e, hg⟩, h1⟩
    · unfold clsM els; exact List.nodup_range.filter _
    · subst e
      obtain ⟨g, hg, h1⟩ := (i1 x).1 hy
      have := (hmem2 g).1 hg
      exact this.1 (first_uniq hT (hf' _ this.2) (hf' _ hmem) (clsM_mem.1 h1).2.2 (clsM_mem.1 hx).2.2)
    · refine List.Pairwise.imp_of_mem (R := fun _ _ => True) (fun {x y} hx hy _ => ?_) (List.pairwise_of_forall fun _ _ => trivial)
      rintro ⟨h1, h2⟩
      have := oneM_trans hT (by rw [oneM_symm]; exact (clsM_mem.1 hx).2.2) (clsM_mem.1 hy).2.2
      rcases oneM_iff.1 this with e | e
      · subst e; rw [h1] at h2; cases h2
      · rw [e.1] at h2; cases h2
    · rintro ⟨h1, _⟩
      obtain ⟨g, hg, h3⟩ := (i1 y).1 hy
      have hgm := (hmem2 g).1 hg
      have a1 := (clsM_mem.1 h3).2.2
      have a2 := (clsM_mem.1 hx).2.2
      have b1 : M g x = true := by
        rcases oneM_iff.1 a1 with e | e
        · rw [e]; exact h1
        · exact hT _ _ _ e.1 h1
      have b2 : M g h = true := by
        rcases oneM_iff.1 a2 with e | e
        · rw [e]; exact b1
        · exact hT _ _ _ b1 e.2
      unfold freeL at hfree
      have := List.all_eq_true.1 hfree g hgm.2
      rw [b2] at this
      simp at this
      exact hgm.1 this
    · rw [List.length_append, i4]
      have hp := ((List.perm_cons_erase hmem).map (clsM M n)).map List.length
      have := hp.sum_nat
      simpa using this.symm
theorem srt_spec {M : Nat → Nat → Bool} (hT : Tr M) {n : Nat} : (∀ x, x ∈ srt M n ↔ x < n) ∧ (srt M n).Nodup ∧ (srt M n).Pairwise (fun x y => ¬ (M y x = true ∧ M x y = false)) ∧ (srt M n).length = n := by
  obtain ⟨h1, h2, h3, h4⟩ := srtS_spec hT (n := n) _ (hdsM M n) rfl (fun x hx => hds_mem.1 hx) hds_nodup
  refine ⟨fun x => ?_, h2, h3, ?_⟩
  · rw [srt, h1]
    constructor
    · rintro ⟨g, _, h⟩; exact (clsM_mem.1 h).1
    · intro hx
      obtain ⟨g1, g2, g3⟩ := hdOf_spec hT x
      exact ⟨hdOf M x, hdOf_mem hT hx, clsM_mem.2 ⟨hx, g1, g3⟩⟩
  · rw [srt, h4]; exact crc_sum hT
theorem orderSorted_law {n : Int} {lp : Option Addr} {ll lc : Nat} {l : List (Int × Int)} {H : Hp} (hn : (Lit.int .u8 n).wf = true) (hl : Sn 2 pairC H lp ll lc l) (_ : ∀ x ∈ l, (Lit.int .i64 x.1).wf = true ∧ (Lit.int .i64 x.2).wf = true)
    (hT : Tz H) : centolaw3_OrderSorted.C n lp ll lc H fun r H' => r = true ∧ Le H H' := by
  apply centolaw3_OrderSorted.of
  have hlen := hl.len
  obtain ⟨n0, n1, e1, e2, e3⟩ := cap_mod hn (k := 20) (by decide)
  refine centolaw3_known.c hT fun H0 le0 => ?_
  refine bcF ?_
  refine bcd (fun _ => ⟨rfl, le0⟩) fun hll => ?_
  refine ⟨by decide, ?_⟩
  have e1' : Int.tmod n 20 = ((n.toNat % 20 : Nat) : Int) := e1
  have e2' : cap40 (Int.tmod n 20) = n.toNat % 20 := e2
  refine chk (by rw [e1']; omega) ?_
  refine centolaw3_made.c (hl.le le0) (by omega) (hT.le le0) fun R O m Om H1 u1 _ _ le1 => ?_
  rw [e2'] at u1
  generalize n.toNat % 20 = k at *
  refine bcd (fun h => by cases h) fun _ => ?_
  have hsup := u1.sup
  have hTr := clo_tr hsup
  generalize ofM l k = M at *
  refine order_Sort.c u1.rn (by omega) fun p2 l2 c2 H2 s2 le2 => ?_
  have h2 := s2.len
  obtain ⟨q1, q2, q3, q4⟩ := srt_spec hTr (n := k)
  rw [q4] at h2
  subst h2
  have u2 := u1.le le2
  refine rel_Rel_Closure.c u2 fun R3 O3 H3 u3 _ le3 => ?_
  have v3 := u2.le le3
  refine rel_Rel_Len.c v3 ?_
  have s3 := s2.le le3
  have leH3 := (le0.trans le1).trans (le2.trans le3)
  generalize clo M l2 = N at *
  generalize srt N l2 = s at *
  refine mk rfl (by omega) (by omega) ?_
  intro b hb
  have le4 : Le H3 (upd H3 b (rep l2 [.int .i64 (0 : Int)])) := .upd hb
  have r4 : ∀ x, x < l2 → rd (upd H3 b (rep l2 [.int .i64 (0 : Int)])) b x = some (.int .i64 0) := fun x hx => rd_rep hx
  generalize upd H3 b (rep l2 [.int .i64 (0 : Int)]) = H4 at *
  have keep : ∀ H', Mod [b] H4 H' → Le H3 H' := fun H' hm => hm.le le4 (none1 hb)
  have put : ∀ {H' : Hp} {g g' : Nat → Int} {x : Nat} {v : Int}, (∀ x, x < l2 → rd H' b x = some (.int .i64 (g x))) → x < l2 → (∀ y, y < l2 → g' y = if y = x then v else g y) → ∀ y, y < l2 → rd (wr H' b x (.int .i64 v)) b y = some (.int .i64 (g' y)) := by
    intro H' g g' x v h hx hg y hy
    rw [hg y hy]
    by_cases e : y = x
    · subst e; rw [if_pos rfl, rd_wr_self (h y hy)]
    · rw [if_neg e, rd_wr_off e, h y hy]
  refine ⟨fun i Hx => ∃ i' : Nat, i = i' ∧ i' ≤ l2 ∧ Mod [b] H4 Hx ∧ ∀ x, x < l2 → rd Hx b x = some (.int .i64 (if x < i' then (-1 : Int) else 0)), fun i _ => (l2 - i).toNat, ⟨0, rfl, by omega, .refl, fun x hx => by rw [r4 x hx]; rfl⟩, ?_⟩
  rintro i Hx ⟨i, rfl, hi, mx, rx⟩
  refine bcd (fun h => ?_) (fun h => ?_)
  · have hil : i < l2 := by omega
    refine idxN i rfl hil (st0 (rx i hil) (chk (by omega) ⟨⟨i + 1, by omega, by omega, mx.wr (.inl (by simp)), ?_⟩, by first | omega | (dsimp only; omega)⟩))
    refine put rx hil fun y hy => ?_
    by_cases e : y = i
    · subst e; simp
    · rw [if_neg e]
      by_cases h : y < i
      · rw [if_pos h, if_pos (by omega)]
      · rw [if_neg h, if_neg (by omega)]
  · obtain rfl : i = l2 := by omega
    refine ⟨fun j Hx => ∃ j' : Nat, j = j' ∧ j' ≤ i ∧ Mod [b] H4 Hx ∧ ∀ x, x < i → rd Hx b x = some (.int .i64 (if x ∈ s.take j' then ((s.idxOf x : Nat) : Int) else -1)), fun j _ => (i - j).toNat, ⟨0, rfl, by omega, mx, fun x hx => by rw [rx x hx, if_pos hx]; simp⟩, ?_⟩
    rintro j Hy ⟨j, rfl, hj, my, ry⟩
    have sy := s3.le (keep Hy my)
    refine bcd (fun h => ?_) (fun h => ?_)
    · have hjs : j < s.length := by omega
      have hsj : s[j] < i := (q1 _).1 (List.getElem_mem hjs)
      refine slI sy (g := fun (x : Nat) => (x : Int)) (fun _ => rfl) (by omega) (by omega) fun _ => ?_
      simp only [Int.toNat_natCast]
      refine bcd (fun h => absurd h (by omega)) fun _ => ?_
      refine slI sy (g := fun (x : Nat) => (x : Int)) (fun _ => rfl) (by omega) (by omega) fun _ => ?_
      simp only [Int.toNat_natCast]
      refine bcd (fun h => absurd h (by omega)) fun _ => ?_
      refine slI sy (g := fun (x : Nat) => (x : Int)) (fun _ => rfl) (by omega) (by omega) fun _ => ?_
      simp only [Int.toNat_natCast]
      have hno : s[j] ∉ s.take j := fun hm => by
        obtain ⟨x, hx, e⟩ := List.mem_iff_getElem.1 hm
        rw [List.getElem_take] at e
        have hx' : x < j := by simp at hx; omega
        have := nodup_inj q2 (by omega) hjs e
        omega
      refine idxN _ rfl hsj (ldI_i (by rw [Nat.zero_add, ry _ hsj, if_neg hno]) ?_)
      refine bcd (fun h => absurd h (by decide)) fun _ => ?_
      refine slI sy (g := fun (x : Nat) => (x : Int)) (fun _ => rfl) (by omega) (by omega) fun _ => ?_
      simp only [Int.toNat_natCast]
      refine idxN _ rfl hsj (st0 (ry _ hsj) (chk (by omega) ⟨⟨j + 1, by omega, by omega, my.wr (.inl (by simp)), ?_⟩, by first | omega | (dsimp only; omega)⟩))
      refine put ry hsj fun y hy => ?_
      have hidx : s.idxOf s[j] = j := nodup_inj q2 (List.idxOf_lt_length_of_mem (List.getElem_mem hjs)) hjs (List.getElem_idxOf (List.idxOf_lt_length_of_mem (List.getElem_mem hjs)))
      have hts : y ∈ s.take (j + 1) ↔ y ∈ s.take j ∨ y = s[j] := by rw [List.take_succ_eq_append_getElem hjs, List.mem_append, List.mem_singleton]
      by_cases e : y = s[j]
      · rw [if_pos e, if_pos (hts.2 (.inr e)), e, hidx]
      · rw [if_neg e]
        by_cases h : y ∈ s.take j
        · rw [if_pos h, if_pos (hts.2 (.inl h))]
        · rw [if_neg h, if_neg fun g => (hts.1 g).elim h e]
    · have hpos : ∀ x, x < i → rd Hy b x = some (.int .i64 ((s.idxOf x : Nat) : Int)) := fun x hx => by
        rw [ry x hx, List.take_of_length_le (by omega), if_pos ((q1 x).2 hx)]
      have ufy := u3.le (keep Hy my)
      refine ⟨fun a Hz => ∃ a' : Nat, a = a' ∧ a' ≤ i ∧ Hy = Hz, fun a _ => (i - a).toNat, ⟨0, rfl, by omega, rfl⟩, ?_⟩
      rintro a _ ⟨a, rfl, ha, rfl⟩
      refine bcd (fun h => ?_) (fun h => ?_)
      · have hal : a < i := by omega
        refine ⟨fun x Hz => ∃ x' : Nat, x = x' ∧ x' ≤ i ∧ Hy = Hz, fun x _ => (i - x).toNat, ⟨0, rfl, by omega, rfl⟩, ?_⟩
        rintro x _ ⟨x, rfl, hx, rfl⟩
        refine bcd (fun h => ?_) (fun h => ?_)
        · have hxl : x < i := by omega
          have go : CHK .i64 ((x : Int) + 1) fun y => (∃ x' : Nat, y = x' ∧ x' ≤ i ∧ Hy = Hy) ∧ (i - y).toNat < (i - (x : Int)).toNat := chk (by omega) ⟨⟨x + 1, by omega, by omega, rfl⟩, by omega⟩
          refine rel_Rel_Has.c ufy ?_
          rw [hasM_nat]
          refine bc_i (fun h1 => ?_) (fun h1 => go)
          refine rel_Rel_Has.c ufy ?_
          rw [hasM_nat]
          refine bcn (fun h2 => ?_) (fun h2 => go)
          refine idxN a rfl hal (ldI_i (by rw [Nat.zero_add]; exact hpos a hal) ?_)
          refine idxN x rfl hxl (ldI_i (by rw [Nat.zero_add]; exact hpos x hxl) ?_)
          refine bcd (fun hlt => ?_) (fun _ => go)
          have ha' := List.idxOf_lt_length_of_mem ((q1 a).2 hal)
          have hx' := List.idxOf_lt_length_of_mem ((q1 x).2 hxl)
          have := List.pairwise_iff_getElem.1 q3 _ _ hx' ha' (by omega)
          rw [List.getElem_idxOf hx', List.getElem_idxOf ha'] at this
          exact absurd ⟨h1, h2⟩ this
        · exact chk (by omega) ⟨⟨a + 1, by omega, by omega, rfl⟩, by first | omega | (dsimp only; omega)⟩
      · exact ⟨decide_eq_true rfl, leH3.trans (keep Hy my)⟩

set_option maxRecDepth 100000 in
theorem orderSorted_lifted (os : Os) (started : os.Started) (H : Type) (enc : TypeId × Value → H) :
    ReturnsInHanded {} Tryd.checked os 9 .any (fun w args => (Rows.orderSortedSpec.pre enc Tryd.prog Tryd.f9 [] false w args ∧ laidMetH Tryd.prog laidTz w) ∧ sizedMet enc Tryd.prog Tryd.f9 (OpenSpec.ofChange Rows.orderSortedSpec) false w args)
      (Rows.orderSortedSpec.post enc Tryd.prog Tryd.f9 false true false false) := by
  refine returnsInHanded_of_change_and (C := Tryd.checked) (X := fun w _ => laidMetH Tryd.prog laidTz w) (fun _ _ _ hh h => h.of_heap hh) Tryd.own started (by kernel_rfl) Tryd.func9
    (ChangeSpec.witness_shaped (enc := enc) (C := Tryd.checked) (os := os) (X := fun w _ => laidMetH Tryd.prog laidTz w) false (World.doorLaid Tryd.prog 400 os) #[.int .u8 0, .slice Option.none 0 0] 8 rfl (World.shaped_of_RefB (by kernel_rfl) (by kernel_rfl)) (by kernel_rfl) (by kernel_rfl) (by kernel_rfl) (door_met os _)) ?_
  intro W base args ds gs before hval0 hW _ _ hL _
  have hval : ∀ (j : Nat) t v, Tryd.f9.params[j]? = some t → args[j]? = some v → Value.okWide Tryd.prog W .any base t v := hval0
  have hW' := hW
  obtain ⟨p, q, hA0, hV, rfl, hfz, hnd⟩ := hW
  have hA : DataW.TrodAll enc Tryd.prog W 0 (fun _ => true) true Tryd.f9.params.toList args.toList ds p := hA0
  rw [Tryd.params9] at hA hval
  obtain ⟨v0, v1, d0, d1, p0, p1, rfl, rfl, rfl, h0, h1⟩ := trodAll_two hA
  obtain ⟨x0, rfl, rfl, rfl, w0⟩ := open_int Tryd.underlying5 (hval 0 5 v0 rfl rfl) h0
  obtain ⟨q1, l1, c1, x1, rfl, s1⟩ := openSl (by decide) Tryd.underlying22 (opens_st Tryd.underlying30 (by kernel_rfl) (opensF_cons rfl (opens_int Tryd.underlying3 (by kernel_rfl)) rfl (opensF_one rfl (opens_int Tryd.underlying3 (by kernel_rfl))))) (hval 1 22 v1 rfl rfl) h1 (fun x hx => by simp [hx]) hfz
  refine (calls_true (CallH.true (orderSorted_law w0 s1.pairs s1.pairsWf (tz_of_laid hL)))).mono fun e W' ⟨he, hk⟩ => ?_
  subst he
  exact ⟨_, rfl, post_true Tryd.laidOut hW' (by kernel_rfl) rfl rfl rfl Tryd.underlying4 hk⟩

theorem orderSorted_row : Rows.OrderSortedSaid :=
  OpenClaim.holds_of_wide 9 Tryd.f9 rfl rfl rfl rfl rfl rfl rfl ⟨rfl, rfl, rfl, rfl, rfl⟩ rfl rfl rfl rfl rfl (by kernel_rfl) Tryd.func9 (by kernel_rfl)
    (of_decide_eq_true (by kernel_rfl)) (by unfold Func.isWrapper; first | (rw [if_pos (by decide +kernel)]; kernel_rfl) | (rw [if_neg (by decide +kernel)]; exact ⟨rfl, rfl⟩))
    (fun os started H enc _ => orderSorted_lifted os started H enc)

theorem orderSorted_card : Rows.OrderSortedCardSaid :=
  Claim7.holds_tied_plain_at .later [] [.data] true (true, "f14aac9e52d846e16b45683151c3010fb29280cfdf5c2d90c2c3a166c41e4a9f") false
    orderSorted_row (fun _ h => by cases h) (by kernel_rfl) (fun _ h => by cases h) orderSorted_row_tie rfl ⟨rfl, rfl⟩ (by kernel_rfl) rfl
    (fun f fn hf hfn => by
      obtain rfl : f = 9 := Option.some.inj ((show Tryd.prog.funcNamed Rows.orderSortedRow.func = some 9 by kernel_rfl).symm.trans hf) |>.symm
      obtain rfl : fn = Tryd.f9 := (Option.some.inj (Tryd.func9.symm.trans hfn)).symm
      exact ⟨by kernel_rfl, fun j t ht => by
        rw [Tryd.params9] at ht
        have hm : t ∈ [5, 22] := by
          have := Array.mem_of_getElem? ht
          simp at this
          first | (rcases this with rfl | rfl <;> simp) | simp [this]
        have hall : ([5, 22].all fun u => !Tryd.prog.wantsStandIn u) = true := by kernel_rfl
        exact (show Tryd.prog.wantsStandIn t = false by simpa using List.all_eq_true.1 hall t hm)⟩)
    (by kernel_rfl)
end Go.Proofs.YtcmooaimhloonaaDoor
