/- For every input OrderLeast returns true, and what came in reads as it did: tied to the table of math/bits. -/
import Derived.Test.YtcmooaimhloonaaDoorO10
import Derived.Test.YtcmooaimhloonaaDoorBT
import Derived.Test.YtcmooaimhloonaaDoorVcOpen
namespace Go.Proofs.YtcmooaimhloonaaDoor
open Go.V
open Go.ChangeShapes Go.WideShapes Go.ChangeAt Go.RowKit Go.WideElems Go.WideMaps
/-! ### The least pairs of an order -/
section
variable {M N : Nat → Nat → Bool} {k : Nat}
/-- N goes upwards. -/
def Up (N : Nat → Nat → Bool) : Prop := ∀ x y, N x y = true → x < y
theorem up_clo (hs : Sup M k) (h : Up M) : Up (clo M k) := fun x y e => by
  have := clo_least (N := fun x y => decide (x < y)) hs (fun x y z h1 h2 => by rw [decide_eq_true_eq] at *; omega) (fun x y e => decide_eq_true (h x y e)) e
  simpa using this
theorem up_hds (h : Up N) : hdsM N k = List.range k := by
  unfold hdsM els
  refine List.filter_eq_self.2 fun x _ => fstM_iff.2 fun b hb => ?_
  cases e : oneM N x b with
  | false => rfl
  | true =>
    rcases oneM_iff.1 e with e | ⟨h1, h2⟩
    · omega
    · have := h _ _ h1; have := h _ _ h2; omega
theorem up_ord (h : Up N) : ordB N k = true := ordB_iff.2 fun a _ => by
  cases e : N a a with
  | false => rfl
  | true => have := h _ _ e; omega
/-- A least pair. -/
def lst (N : Nat → Nat → Bool) (k a b : Nat) : Prop := N a b = true ∧ ∀ c, c < k → ¬ (N a c = true ∧ N c b = true)
theorem red_mem (hs : Sup N k) (hu : Up N) {p : Int × Int} : p ∈ red N k ↔ ∃ a b : Nat, p = ((a : Int), (b : Int)) ∧ lst N k a b := by
  unfold red
  rw [up_hds hu]
  simp only [List.mem_flatMap, List.mem_range]
  unfold redRow
  simp only [List.mem_map, List.mem_filter, List.mem_range]
  have key : ∀ {a b : Nat}, redB N (List.range k) a b = true ↔ lst N k a b := by
    intro a b
    unfold redB lst
    simp only [Bool.and_eq_true, Bool.not_eq_true', List.any_eq_false, List.mem_range, decide_eq_true_eq]
    constructor
    · rintro ⟨⟨_, h1⟩, h2⟩
      refine ⟨h1, fun c hc hcc => h2 c hc ?_⟩
      have := hu _ _ hcc.1
      have := hu _ _ hcc.2
      unfold betw
      rw [hcc.1, hcc.2, decide_eq_true (by omega : a ≠ c), decide_eq_true (by omega : c ≠ b)]; rfl
    · rintro ⟨h1, h2⟩
      have := hu _ _ h1
      refine ⟨⟨by omega, h1⟩, fun c hc hb => h2 c hc ?_⟩
      unfold betw at hb
      simp only [Bool.and_eq_true] at hb
      exact ⟨hb.1.2, hb.2.2⟩
  constructor
  · rintro ⟨a, _, b, ⟨_, h⟩, rfl⟩
    exact ⟨a, b, rfl, key.1 h⟩
  · rintro ⟨a, b, rfl, h⟩
    have := hs.lt h.1
    exact ⟨a, this.1, b, ⟨this.2, key.2 h⟩, rfl⟩
theorem red_nodup (hu : Up N) : (red N k).Nodup := by
  unfold red
  rw [up_hds hu]
  have inj : ∀ a : Nat, (redRow N (List.range k) a (List.range k)).Nodup := fun a => by
    unfold redRow
    refine List.Pairwise.map _ (fun x y (h : x ≠ y) => ?_) (List.nodup_range.filter _)
    intro e
    have := (Prod.mk.inj e).2
    exact h (by omega)
  have fstE : ∀ (a : Nat) p, p ∈ redRow N (List.range k) a (List.range k) → p.1 = (a : Int) := fun a p hp => by
    unfold redRow at hp
    obtain ⟨b, _, rfl⟩ := List.mem_map.1 hp
    rfl
  have : ∀ l : List Nat, l.Nodup → (l.flatMap fun a => redRow N (List.range k) a (List.range k)).Nodup := by
    intro l
    induction l with
    | nil => intro _; simp
    | cons a l ih =>
      intro hl
      rw [List.nodup_cons] at hl
      rw [List.flatMap_cons]
      refine List.nodup_append.2 ⟨inj a, ih hl.2, fun p hp q hq e => ?_⟩
      subst e
      obtain ⟨c, hc, hq⟩ := List.mem_flatMap.1 hq
      have h1 := fstE a p hp
      have h2 := fstE c p hq
      have : a = c := by omega
      subst this
      exact hl.1 hc
  exact this _ List.nodup_range
theorem ofM_mem {l : List (Int × Int)} {x y : Nat} : ofM l k x y = true ↔ x < k ∧ y < k ∧ ((x : Int), (y : Int)) ∈ l := by
  unfold ofM
  simp only [Bool.and_eq_true, decide_eq_true_eq, List.any_eq_true]
  constructor
  · rintro ⟨h, p, hp, h1, h2⟩
    refine ⟨h.1, h.2, ?_⟩
    rw [← h1, ← h2]; exact hp
  · rintro ⟨h1, h2, h3⟩
    exact ⟨⟨h1, h2⟩, _, h3, rfl, rfl⟩
/-- The least pairs have the same closure. -/
theorem red_clo (hs : Sup N k) (hu : Up N) (ht : Tr N) : clo (ofM (red N k) k) k = N := by
  funext x y
  rw [Bool.eq_iff_iff]
  constructor
  · intro h
    refine clo_least (ofM_sup _ _) ht (fun a b hab => ?_) h
    obtain ⟨_, _, hm⟩ := ofM_mem.1 hab
    obtain ⟨a', b', e, hl⟩ := (red_mem hs hu).1 hm
    have e1 := (Prod.mk.inj e).1
    have e2 := (Prod.mk.inj e).2
    rw [show a = a' by omega, show b = b' by omega]; exact hl.1
  · have key : ∀ d x y, y - x = d → N x y = true → clo (ofM (red N k) k) k x y = true := by
      intro d
      induction d using Nat.strongRecOn with
      | _ d ih =>
        intro x y hd h
        have hxy := hu _ _ h
        have hlt := hs.lt h
        by_cases hl : lst N k x y
        · exact (clo_way (ofM_sup _ _) _ _).2 (.one (ofM_mem.2 ⟨hlt.1, hlt.2, (red_mem hs hu).2 ⟨x, y, rfl, hl⟩⟩))
        · have : ∃ c, c < k ∧ N x c = true ∧ N c y = true := Classical.byContradiction fun hno => hl ⟨h, fun c hc hcc => hno ⟨c, hc, hcc⟩⟩
          obtain ⟨c, _, h1, h2⟩ := this
          have g1 := hu _ _ h1
          have g2 := hu _ _ h2
          exact clo_tr (ofM_sup _ _) _ _ _ (ih _ (by omega) x c rfl h1) (ih _ (by omega) c y rfl h2)
    exact key _ x y rfl
/-- One pair less: it isn't there. -/
theorem red_less (hs : Sup N k) (hu : Up N) (ht : Tr N) {l : List (Int × Int)} (hsub : ∀ p ∈ l, p ∈ red N k) {a b : Nat} (hab : lst N k a b) (hno : ((a : Int), (b : Int)) ∉ l) : clo (ofM l k) k a b = false := by
  cases e : clo (ofM l k) k a b with
  | false => rfl
  | true =>
    have step : ∀ x y, ofM l k x y = true → N x y = true := fun x y h => by
      obtain ⟨_, _, hm⟩ := ofM_mem.1 h
      obtain ⟨a', b', e, hl⟩ := (red_mem hs hu).1 (hsub _ hm)
      have e1 := (Prod.mk.inj e).1
      have e2 := (Prod.mk.inj e).2
      rw [show x = a' by omega, show y = b' by omega]; exact hl.1
    have way : ∀ {x y}, Way (ofM l k) k x y → N x y = true := fun h => clo_least (ofM_sup _ _) ht step ((clo_way (ofM_sup _ _) _ _).2 h)
    cases (clo_way (ofM_sup _ _) _ _).1 e with
    | one h => exact absurd (ofM_mem.1 h).2.2 hno
    | two h1 hz h2 => exact absurd ⟨way h1, way h2⟩ (hab.2 _ hz)
/-- What l is made of. -/
def keepL (k : Nat) (l : List (Int × Int)) : List (Int × Int) := l.filter fun p => decide (0 ≤ p.1) && (decide (p.1 < p.2) && decide (p.2 < (k : Int)))
theorem keepL_up {l : List (Int × Int)} : Up (ofM (keepL k l) k) := fun x y h => by
  have := (ofM_mem.1 h).2.2
  have := (List.mem_filter.1 this).2
  simp only [Bool.and_eq_true, decide_eq_true_eq] at this
  omega
theorem keepL_ok {l : List (Int × Int)} : okP (keepL k l) k = true := by
  unfold okP
  rw [List.all_eq_true]
  intro p hp
  have := (List.mem_filter.1 hp).2
  simp only [Bool.and_eq_true, decide_eq_true_eq] at this
  rw [decide_eq_true_eq]; omega
theorem red_ok (hs : Sup N k) (hu : Up N) {l : List (Int × Int)} (hsub : ∀ p ∈ l, p ∈ red N k) : okP l k = true := by
  unfold okP
  rw [List.all_eq_true]
  intro p hp
  obtain ⟨a, b, rfl, hl⟩ := (red_mem hs hu).1 (hsub p hp)
  have := hs.lt hl.1
  rw [decide_eq_true_eq]; omega
end
theorem Sn_slice {α : Type} {n : Nat} {f : α → List Value} {H : Hp} {p : Option Addr} {l c : Nat} {xs : List α} (h : Sn n f H p l c xs) {j k : Nat} (hjk : j ≤ k) (hk : k ≤ xs.length) : Sn n f H (movA p j n c) (k - j) (c - j) ((xs.take k).drop j) := by
  refine ⟨by simp; omega, by have := h.1; have := h.2.1; omega, ?_⟩
  by_cases hj : j = k
  · left; rw [hj]; simp
  · obtain ⟨b, o, hp, h'⟩ := h.at (i := j) (by omega)
    have hc : ¬ c = j := by have := h.1; have := h.2.1; omega
    have hm : mulS j n = j * n := by
      unfold mulS
      cases h : Nat.beq n 1 with
      | false => rfl
      | true => have := Nat.eq_of_beq_eq_true h; subst this; simp
    refine .inr ⟨b, o + j * n, by subst hp; simp [movA, hc, hm], fun i hi j' v e => ?_⟩
    simp at hi
    have := h' (j + i) (by omega) j' v (by simpa using e)
    rw [Nat.add_mul] at this
    rw [Nat.add_assoc o]; exact this
theorem movA_pt {p : Option Addr} (hp : PtOk p) {j s m : Nat} : PtOk (movA p j s m) := by
  rcases hp with rfl | ⟨b, o, rfl⟩
  · exact PtOk.none
  · simp only [movA]; split <;> exact PtOk.some
theorem pairs_cells (xs : List (Int × Int)) : (xs.flatMap pairC).all isCell = true := by
  rw [List.all_eq_true]
  intro v hv
  obtain ⟨p, _, hp⟩ := List.mem_flatMap.1 hv
  unfold pairC at hp
  simp at hp
  rcases hp with rfl | rfl <;> rfl
theorem keepL_snoc {k : Nat} {l : List (Int × Int)} {p : Int × Int} : keepL k (l ++ [p]) = keepL k l ++ if (decide (0 ≤ p.1) && (decide (p.1 < p.2) && decide (p.2 < (k : Int)))) then [p] else [] := by
  unfold keepL
  rw [List.filter_append]
  congr 1
  simp only [List.filter_cons, List.filter_nil]
theorem orderLeast_law {n drop : Int} {lp : Option Addr} {ll lc : Nat} {l : List (Int × Int)} {H : Hp} (hn : (Lit.int .u8 n).wf = true) (hl : Sn 2 pairC H lp ll lc l) (_ : ∀ x ∈ l, (Lit.int .i64 x.1).wf = true ∧ (Lit.int .i64 x.2).wf = true)
    (hdr : (Lit.int .u8 drop).wf = true) (hT : Tz H) : centolaw3_OrderLeast.C n lp ll lc drop H fun r H' => r = true ∧ Le H H' := by
  apply centolaw3_OrderLeast.of
  have hlen := hl.len
  obtain ⟨n0, n1, e1, _, e3⟩ := cap_mod hn (k := 16) (by decide)
  obtain ⟨d0, d1, _⟩ := cap_mod hdr (k := 16) (by decide)
  have e1' : Int.tmod n 16 = ((n.toNat % 16 : Nat) : Int) := e1
  refine centolaw3_known.c hT fun H0 le0 => ?_
  refine bcF ?_
  refine bcd (fun _ => ⟨rfl, le0⟩) fun hll => ?_
  refine ⟨by decide, ?_⟩
  rw [e1']
  refine chk (by omega) ?_
  obtain ⟨k, hk⟩ : ∃ k : Nat, ((n.toNat % 16 : Nat) : Int) + 1 = k := ⟨n.toNat % 16 + 1, by omega⟩
  rw [hk]
  have hk16 : k ≤ 16 := by omega
  refine chk (by omega) ?_
  have hT0 := hT.le le0
  refine ⟨fun qp ql qc i Hx => ∃ i' : Nat, i = i' ∧ i' ≤ ll ∧ Le H0 Hx ∧ Buf 2 H0 Hx qp ql qc ((keepL k (l.take i')).flatMap pairC), fun _ _ _ i _ => (ll - i).toNat, ⟨0, rfl, by omega, .refl _, by simpa [keepL] using Buf.none⟩, ?_⟩
  rintro qp ql qc i Hx ⟨i, rfl, hi, lx, hB⟩
  have hlx := hl.le (le0.trans lx)
  have hql := hB.1
  rw [flatMap_len (n := 2) (fun _ => rfl)] at hql
  have hkl : (keepL k (l.take i)).length ≤ 60 := by
    have := List.length_filter_le (fun p : Int × Int => decide (0 ≤ p.1) && (decide (p.1 < p.2) && decide (p.2 < (k : Int)))) (l.take i)
    unfold keepL
    simp at this ⊢; omega
  refine bcd (fun h => ?_) (fun h => ?_)
  · have hil : i < l.length := by omega
    have hts := List.take_succ_eq_append_getElem hil
    have k1 : ∀ v, v = (decide (0 ≤ l[i].1) && (decide (l[i].1 < l[i].2) && decide (l[i].2 < (k : Int)))) → centolaw3_OrderLeast.k1 Hx (fun qp ql qc i Hx => ∃ i' : Nat, i = i' ∧ i' ≤ ll ∧ Le H0 Hx ∧ Buf 2 H0 Hx qp ql qc ((keepL k (l.take i')).flatMap pairC)) i ll lp (fun _ _ _ i _ => (ll - i).toNat) qc ql qp v Hx := by
      rintro v hv
      cases v with
      | true =>
        refine bcT ?_
        refine snP hlx (by omega) (by omega) fun _ => ?_
        simp only [Int.toNat_natCast]
        refine hB.pushM (te := te_api_Pair) rfl (by decide) rfl (by decide) rfl rfl (by simp [te_api_Pair]; omega) (fun p' c' H' hB' _ hm => ?_) lx
        refine chk (by omega) ⟨⟨i + 1, by omega, by omega, hm.le lx fun y hy => hB.fr y 0 (blkL_mem hB.zero hy), ?_⟩, by first | omega | (dsimp only; omega)⟩
        rw [hts, keepL_snoc, ← hv, if_pos rfl, List.flatMap_append]
        simpa [pairC] using hB'
      | false =>
        refine bcF (chk (by omega) ⟨⟨i + 1, by omega, by omega, lx, ?_⟩, by first | omega | (dsimp only; omega)⟩)
        rw [hts, keepL_snoc, ← hv, if_neg (by decide), List.append_nil]; exact hB
    refine snA hlx (by omega) (by omega) fun _ => ?_
    simp only [Int.toNat_natCast]
    refine bcd (fun h1 => ?_) (fun h1 => k1 false (by rw [decide_eq_false h1]; rfl))
    refine snA hlx (by omega) (by omega) fun _ => ?_
    refine snB hlx (by omega) (by omega) fun _ => ?_
    simp only [Int.toNat_natCast]
    refine bcd (fun h2 => ?_) (fun h2 => k1 false (by rw [decide_eq_false h2]; simp))
    refine snB hlx (by omega) (by omega) fun _ => ?_
    simp only [Int.toNat_natCast]
    exact k1 _ (by rw [decide_eq_true h1, decide_eq_true h2]; rfl)
  · have e0 : l.take i = l := List.take_of_length_le (by omega)
    rw [e0] at hB hkl
    have leHx := le0.trans lx
    have sq : Sn 2 pairC Hx qp ql qc (keepL k l) := Buf.sn (f := pairC) (n := 2) (fun _ => rfl) (by decide) hB
    refine rel_Of.c sq (by omega) (hT.le leHx) (fun h => by omega) (fun _ _ _ h _ => by rw [Int.toNat_natCast, keepL_ok] at h; cases h) fun R O H1 _ _ _ u1 _ le1 => ?_
    rw [Int.toNat_natCast] at u1
    have hup := keepL_up (k := k) (l := l)
    have hsM := u1.sup
    generalize ofM (keepL k l) k = M at *
    refine bcd (fun h => absurd rfl h) fun _ => ?_
    refine order_Reduce.c u1.rn (by omega) fun p2 l2 c2 H2 s2 pt2 _ le2 => ?_
    have hsN := clo_sup hsM
    have huN := up_clo hsM hup
    have htN := clo_tr hsM
    have hl2 := s2.len
    have hrl := red_len (M := clo M k) (n := k) (by omega)
    have leH2 := (leHx.trans le1).trans le2
    refine rel_Of.c s2 (by omega) (hT.le leH2) (fun h => by omega) (fun _ _ _ h _ => by rw [Int.toNat_natCast, red_ok hsN huN fun _ hp => hp] at h; cases h) fun R3 O3 H3 _ _ _ u3 _ le3 => ?_
    rw [Int.toNat_natCast] at u3
    refine bcd (fun h => absurd rfl h) fun _ => ?_
    refine rel_Rel_Closure.c u3 fun R4 O4 H4 u4 _ le4 => ?_
    rw [red_clo hsN huN htN] at u4
    refine rel_Rel_Pairs.c u4 fun p5 l5 c5 H5 s5 _ le5 => ?_
    have le25 := (le3.trans le4).trans le5
    have u5 := u1.le (le2.trans le25)
    refine rel_Rel_Closure.c u5 fun R6 O6 H6 u6 _ le6 => ?_
    refine rel_Rel_Pairs.c u6 fun p7 l7 c7 H7 s7 _ le7 => ?_
    have hpl : ∀ N : Nat → Nat → Bool, (prs N k).length ≤ 1000000000 := fun N => by
      have := prs_len_le N k
      have hk2 : k * k ≤ 256 := Nat.mul_le_mul (show k ≤ 16 by omega) (show k ≤ 16 by omega)
      omega
    refine centolaw3_samePairs.c ((s5.le le6).le le7) s7 (hpl _) ?_
    rw [decide_eq_true rfl]
    have le57 := le6.trans le7
    refine bcF (order_IsOrder.c (u5.le le57).rn (by omega) fun H8 le8 => ?_)
    rw [up_ord huN]
    refine bcF ?_
    have leH8 := leH2.trans ((le25.trans le57).trans le8)
    refine bcd (fun _ => ⟨rfl, leH8⟩) fun hne => ?_
    refine chk (by omega) ⟨hne, ?_⟩
    have hpos : 0 < l2 := by omega
    have s8 := s2.le ((le25.trans le57).trans le8)
    obtain ⟨dd, hd, hdl⟩ : ∃ dd : Nat, Int.tmod drop ((l2 : Nat) : Int) = dd ∧ dd < l2 := ⟨drop.toNat % l2, tmodN d0, Nat.mod_lt _ hpos⟩
    rw [hd]
    refine ⟨dd, rfl, by have := s8.2.1; omega, ?_⟩
    refine chk (by omega) ?_
    refine ⟨dd + 1, by omega, by omega, ?_⟩
    have sA := Sn_slice s8 (j := 0) (k := dd) (by omega) (by omega)
    rw [List.drop_zero] at sA
    refine (Buf.none (s := 2) (A := H8) (H := H8)).appS (te := te_api_Pair) (n := dd - 0) (new := ((red (clo M k) k).take dd).flatMap pairC) rfl (by decide) rfl (by decide) (by rw [flatMap_len (n := 2) (fun _ => rfl), List.length_take]; omega) (pairs_cells _) (by simp [te_api_Pair]; omega)
      (fun G hG => sn_srcG (f := pairC) (n := 2) (by decide) (fun _ => rfl) sA (movA_pt pt2) G hG) (fun p9 c9 H9 hB9 hp9 m9 => ?_) (Le.refl _).was
    have le9 : Le H8 H9 := Mod.nil m9
    have sB := Sn_slice (s8.le le9) (j := dd + 1) (k := l2) (by omega) (by omega)
    refine hB9.appS (te := te_api_Pair) (n := l2 - (dd + 1)) (new := ((((red (clo M k) k).take l2).drop (dd + 1)).flatMap pairC)) rfl (by decide) rfl (by decide) (by rw [flatMap_len (n := 2) (fun _ => rfl), List.length_drop, List.length_take]; omega) (pairs_cells _) (by simp [te_api_Pair]; omega)
      (fun G hG => sn_srcG (f := pairC) (n := 2) (by decide) (fun _ => rfl) sB (movA_pt pt2) G hG) (fun p10 c10 H10 hB10 hp10 m10 => ?_) le9.was
    have le10 : Le H8 H10 := m10.le le9 fun x hx => hB9.fr x 0 (blkL_mem hB9.zero hx)
    have et : ([] : List Value) ++ ((red (clo M k) k).take dd).flatMap pairC ++ (((red (clo M k) k).take l2).drop (dd + 1)).flatMap pairC = ((red (clo M k) k).eraseIdx dd).flatMap pairC := by
      have ht : (red (clo M k) k).take l2 = red (clo M k) k := List.take_of_length_le (by omega)
      rw [List.nil_append, ht, ← List.flatMap_append, List.eraseIdx_eq_take_drop_succ]
    rw [et] at hB10
    have s10 := Buf.sn (f := pairC) (n := 2) (fun _ => rfl) (by decide) hB10
    have hsub : ∀ p ∈ (red (clo M k) k).eraseIdx dd, p ∈ red (clo M k) k := fun p hp => List.mem_of_mem_eraseIdx hp
    have hdr' : dd < (red (clo M k) k).length := by omega
    have hel : ((red (clo M k) k).eraseIdx dd).length ≤ 1000000000 := by rw [List.length_eraseIdx_of_lt hdr']; omega
    have leH10 := leH8.trans le10
    refine rel_Of.c s10 hel (hT.le leH10) (fun h => by omega) (fun _ _ _ h _ => by rw [Int.toNat_natCast, red_ok hsN huN hsub] at h; cases h) fun R11 O11 H11 _ _ _ u11 _ le11 => ?_
    rw [Int.toNat_natCast] at u11
    refine bcd (fun _ => ?_) fun h => absurd rfl h
    refine rel_Rel_Closure.c u11 fun R12 O12 H12 u12 _ le12 => ?_
    refine rel_Rel_Pairs.c u12 fun p13 l13 c13 H13 s13 _ le13 => ?_
    have le813 := ((le10.trans le11).trans le12).trans le13
    refine rel_Rel_Closure.c (u5.le ((le57.trans le8).trans le813)) fun R14 O14 H14 u14 _ le14 => ?_
    refine rel_Rel_Pairs.c u14 fun p15 l15 c15 H15 s15 _ le15 => ?_
    refine centolaw3_samePairs.c ((s13.le le14).le le15) s15 (hpl _) ?_
    have hno : ¬ prs (clo (ofM ((red (clo M k) k).eraseIdx dd) k) k) k = prs (clo M k) k := fun e => by
      obtain ⟨a, b, hp, hls⟩ := (red_mem hsN huN).1 (List.getElem_mem hdr')
      have hlt := hsN.lt hls.1
      have h1 : ((a : Int), (b : Int)) ∈ prs (clo M k) k := prs_mem.2 ⟨a, b, hlt.1, hlt.2, hls.1, rfl⟩
      rw [← e] at h1
      obtain ⟨a', b', _, _, hm, e2⟩ := prs_mem.1 h1
      have q1 := (Prod.mk.inj e2).1
      have q2 := (Prod.mk.inj e2).2
      rw [← show a = a' by omega, ← show b = b' by omega] at hm
      rw [red_less hsN huN htN hsub hls] at hm
      · cases hm
      · rw [← hp]
        intro hmem
        have hnd := red_nodup (N := clo M k) (k := k) huN
        obtain ⟨j, hj, ej⟩ := List.mem_iff_getElem.1 hmem
        rw [List.getElem_eraseIdx] at ej
        split at ej
        · have := (List.getElem_inj hnd).1 ej; omega
        · have := (List.getElem_inj hnd).1 ej; omega
    rw [decide_eq_false hno]
    exact ⟨rfl, leH8.trans ((le813.trans le14).trans le15)⟩

set_option maxRecDepth 100000 in
theorem orderLeast_lifted (os : Os) (started : os.Started) (H : Type) (enc : TypeId × Value → H) :
    ReturnsInHanded {} Tryd.checked os 12 .any (fun w args => (Rows.orderLeastSpec.pre enc Tryd.prog Tryd.f12 [] false w args ∧ laidMetH Tryd.prog laidTz w) ∧ sizedMet enc Tryd.prog Tryd.f12 (OpenSpec.ofChange Rows.orderLeastSpec) false w args)
      (Rows.orderLeastSpec.post enc Tryd.prog Tryd.f12 false true false false) := by
  refine returnsInHanded_of_change_and (C := Tryd.checked) (X := fun w _ => laidMetH Tryd.prog laidTz w) (fun _ _ _ hh h => h.of_heap hh) Tryd.own started (by kernel_rfl) Tryd.func12
    (ChangeSpec.witness_shaped (enc := enc) (C := Tryd.checked) (os := os) (X := fun w _ => laidMetH Tryd.prog laidTz w) false (World.doorLaid Tryd.prog 400 os) #[.int .u8 0, .slice Option.none 0 0, .int .u8 0] 8 rfl (World.shaped_of_RefB (by kernel_rfl) (by kernel_rfl)) (by kernel_rfl) (by kernel_rfl) (by kernel_rfl) (door_met os _)) ?_
  intro W base args ds gs before hval0 hW _ _ hL _
  have hval : ∀ (j : Nat) t v, Tryd.f12.params[j]? = some t → args[j]? = some v → Value.okWide Tryd.prog W .any base t v := hval0
  have hW' := hW
  obtain ⟨p, q, hA0, hV, rfl, hfz, hnd⟩ := hW
  have hA : DataW.TrodAll enc Tryd.prog W 0 (fun _ => true) true Tryd.f12.params.toList args.toList ds p := hA0
  rw [Tryd.params12] at hA hval
  obtain ⟨v0, v1, v2, d0, d1, d2, p0, p1, p2, rfl, rfl, rfl, h0, h1, h2⟩ := trodAll_three hA
  obtain ⟨x0, rfl, rfl, rfl, w0⟩ := open_int Tryd.underlying5 (hval 0 5 v0 rfl rfl) h0
  obtain ⟨q1, l1, c1, x1, rfl, s1⟩ := openSl (by decide) Tryd.underlying22 (opens_st Tryd.underlying30 (by kernel_rfl) (opensF_cons rfl (opens_int Tryd.underlying3 (by kernel_rfl)) rfl (opensF_one rfl (opens_int Tryd.underlying3 (by kernel_rfl))))) (hval 1 22 v1 rfl rfl) h1 (fun x hx => by simp [hx]) hfz
  obtain ⟨x2, rfl, rfl, rfl, w2⟩ := open_int Tryd.underlying5 (hval 2 5 v2 rfl rfl) h2
  refine (calls_true (CallH.true (orderLeast_law w0 s1.pairs s1.pairsWf w2 (tz_of_laid hL)))).mono fun e W' ⟨he, hk⟩ => ?_
  subst he
  exact ⟨_, rfl, post_true Tryd.laidOut hW' (by kernel_rfl) rfl rfl rfl Tryd.underlying4 hk⟩

theorem orderLeast_row : Rows.OrderLeastSaid :=
  OpenClaim.holds_of_wide 12 Tryd.f12 rfl rfl rfl rfl rfl rfl rfl ⟨rfl, rfl, rfl, rfl, rfl⟩ rfl rfl rfl rfl rfl (by kernel_rfl) Tryd.func12 (by kernel_rfl)
    (of_decide_eq_true (by kernel_rfl)) (by unfold Func.isWrapper; first | (rw [if_pos (by decide +kernel)]; kernel_rfl) | (rw [if_neg (by decide +kernel)]; exact ⟨rfl, rfl⟩))
    (fun os started H enc _ => orderLeast_lifted os started H enc)

theorem orderLeast_card : Rows.OrderLeastCardSaid :=
  Claim7.holds_tied_plain_at .later [] [.data] true (true, "f14aac9e52d846e16b45683151c3010fb29280cfdf5c2d90c2c3a166c41e4a9f") false
    orderLeast_row (fun _ h => by cases h) (by kernel_rfl) (fun _ h => by cases h) orderLeast_row_tie rfl ⟨rfl, rfl⟩ (by kernel_rfl) rfl
    (fun f fn hf hfn => by
      obtain rfl : f = 12 := Option.some.inj ((show Tryd.prog.funcNamed Rows.orderLeastRow.func = some 12 by kernel_rfl).symm.trans hf) |>.symm
      obtain rfl : fn = Tryd.f12 := (Option.some.inj (Tryd.func12.symm.trans hfn)).symm
      exact ⟨by kernel_rfl, fun j t ht => by
        rw [Tryd.params12] at ht
        have hm : t ∈ [5, 22] := by
          have := Array.mem_of_getElem? ht
          simp at this
          first | (rcases this with rfl | rfl | rfl <;> simp) | simp [this]
        have hall : ([5, 22].all fun u => !Tryd.prog.wantsStandIn u) = true := by kernel_rfl
        exact (show Tryd.prog.wantsStandIn t = false by simpa using List.all_eq_true.1 hall t hm)⟩)
    (by kernel_rfl)
end Go.Proofs.YtcmooaimhloonaaDoor
