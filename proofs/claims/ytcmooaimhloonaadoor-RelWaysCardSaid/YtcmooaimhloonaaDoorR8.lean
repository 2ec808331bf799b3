/- For every input RelWays returns true, and what came in reads as it did: tied to the table of math/bits. -/
import Derived.Test.YtcmooaimhloonaaDoorR5
import Derived.Test.YtcmooaimhloonaaDoorBT
import Derived.Test.YtcmooaimhloonaaDoorVcOpen
namespace Go.Proofs.YtcmooaimhloonaaDoor
open Go.V
open Go.ChangeShapes Go.WideShapes Go.ChangeAt Go.RowKit Go.WideElems Go.WideMaps
/-- Who stands behind p's second end has been seen. -/
def rlx (a : Nat) (s : Nat → Bool) (p : Int × Int) : Nat → Bool := if p.1 = (a : Int) ∨ s p.1.toNat = true then fun x => if x = p.2.toNat then true else s x else s
def rnd (a : Nat) (q : List (Int × Int)) (s : Nat → Bool) : Nat → Bool := q.foldl (rlx a) s
def rnds (a : Nat) (q : List (Int × Int)) : Nat → Nat → Bool
  | 0 => fun _ => false
  | r + 1 => rnd a q (rnds a q r)
theorem rlx_at {a : Nat} {s : Nat → Bool} {p : Int × Int} {x : Nat} : rlx a s p x = if (p.1 = (a : Int) ∨ s p.1.toNat = true) ∧ x = p.2.toNat then true else s x := by
  unfold rlx
  by_cases h : p.1 = (a : Int) ∨ s p.1.toNat = true
  · by_cases hx : x = p.2.toNat
    · simp [h, hx]
    · simp [h, hx]
  · simp [h]
theorem rlx_ge {a : Nat} {s : Nat → Bool} {p : Int × Int} {x : Nat} (h : s x = true) : rlx a s p x = true := by
  rw [rlx_at]
  split
  · rfl
  · exact h
theorem rnd_ge {a : Nat} : ∀ (q : List (Int × Int)) {s : Nat → Bool} {x : Nat}, s x = true → rnd a q s x = true
  | [], _, _, h => h
  | p :: q, s, x, h => rnd_ge q (rlx_ge h)
theorem rnd_closed {a : Nat} : ∀ (q : List (Int × Int)) {s : Nat → Bool} {p : Int × Int}, p ∈ q → (p.1 = (a : Int) ∨ s p.1.toNat = true) → rnd a q s p.2.toNat = true
  | [], _, _, h, _ => by cases h
  | p' :: q, s, p, h, hp => by
    show rnd a q (rlx a s p') p.2.toNat = true
    rcases List.mem_cons.1 h with rfl | h
    · refine rnd_ge q ?_
      rw [rlx_at, if_pos ⟨hp, rfl⟩]
    · exact rnd_closed q h (hp.imp id rlx_ge)
theorem rnd_sound {a n : Nat} {M : Nat → Nat → Bool} (hs : Sup M n) {q : List (Int × Int)} (hq : ∀ p ∈ q, 0 ≤ p.1 ∧ M p.1.toNat p.2.toNat = true) : ∀ (q' : List (Int × Int)), (∀ p ∈ q', p ∈ q) → ∀ {s : Nat → Bool}, (∀ x, s x = true → clo M n a x = true) → ∀ x, rnd a q' s x = true → clo M n a x = true
  | [], _, _, h, x, hx => h x hx
  | p :: q', hsub, s, h, x, hx => by
    refine rnd_sound hs hq q' (fun p hp => hsub p (by simp [hp])) (s := rlx a s p) (fun y hy => ?_) x hx
    rw [rlx_at] at hy
    have hp := hq p (hsub p (by simp))
    split at hy
    · rename_i hc
      obtain ⟨hc, rfl⟩ := hc
      rcases hc with hc | hc
      · rw [hc] at hp
        have := clo_ge hs hp.2
        simpa using this
      · exact clo_tr hs _ _ _ (h _ hc) (clo_ge hs hp.2)
    · exact h y hy
theorem els_len_mono {s t : Nat → Bool} (h : ∀ x, s x = true → t x = true) : ∀ n, (els s n).length ≤ (els t n).length
  | 0 => Nat.le_refl _
  | n + 1 => by
    have ih := els_len_mono h n
    cases hs : s n with
    | true => rw [els_on hs, els_on (h n hs)]; simp; exact ih
    | false =>
      rw [els_off hs]
      cases ht : t n with
      | true => rw [els_on ht]; simp; omega
      | false => rw [els_off ht]; exact ih
theorem els_len_lt {s t : Nat → Bool} (h : ∀ x, s x = true → t x = true) : ∀ n x, x < n → s x = false → t x = true → (els s n).length < (els t n).length
  | 0, _, hx, _, _ => by omega
  | n + 1, x, hx, hs, ht => by
    by_cases e : x = n
    · subst e
      have := els_len_mono h x
      rw [els_off hs, els_on ht]; simp; omega
    · have ih := els_len_lt h n x (by omega) hs ht
      cases hs' : s n with
      | true => rw [els_on hs', els_on (h n hs')]; simp; exact ih
      | false =>
        rw [els_off hs']
        cases ht' : t n with
        | true => rw [els_on ht']; simp; omega
        | false => rw [els_off ht']; exact ih
theorem rnds_mono {a : Nat} {q : List (Int × Int)} {r : Nat} {x : Nat} (h : rnds a q r x = true) : rnds a q (r + 1) x = true := rnd_ge q h
/-- One round more than there are elements is enough. -/
theorem rnds_fix {a n : Nat} {q : List (Int × Int)} : ∃ r, r ≤ n ∧ ∀ x, x < n → rnds a q (r + 1) x = rnds a q r x := by
  apply Classical.byContradiction
  intro hno
  have each : ∀ r, r ≤ n → ∃ x, x < n ∧ rnds a q r x = false ∧ rnds a q (r + 1) x = true := fun r hr => by
    apply Classical.byContradiction
    intro h
    refine hno ⟨r, hr, fun x hx => ?_⟩
    cases h1 : rnds a q r x with
    | true => exact rnds_mono h1
    | false =>
      cases h2 : rnds a q (r + 1) x with
      | false => rfl
      | true => exact absurd ⟨x, hx, h1, h2⟩ h
  have grow : ∀ r, r ≤ n + 1 → r ≤ (els (rnds a q r) n).length := by
    intro r
    induction r with
    | zero => intro _; omega
    | succ r ih =>
      intro hr
      obtain ⟨x, hx, h1, h2⟩ := each r (by omega)
      have := els_len_lt (s := rnds a q r) (t := rnds a q (r + 1)) (fun x h => rnds_mono h) n x hx h1 h2
      have := ih (by omega)
      omega
  have h1 := grow (n + 1) (Nat.le_refl _)
  have h2 := els_len_le (rnds a q (n + 1)) n
  omega
theorem rnds_out {a n : Nat} {q : List (Int × Int)} (hq : ∀ p ∈ q, p.2.toNat < n) : ∀ r x, n ≤ x → rnds a q r x = false := by
  have one : ∀ (q' : List (Int × Int)), (∀ p ∈ q', p ∈ q) → ∀ (s : Nat → Bool), (∀ x, n ≤ x → s x = false) → ∀ x, n ≤ x → rnd a q' s x = false := by
    intro q'
    induction q' with
    | nil => intro _ s h; exact h
    | cons p q' ih =>
      intro hs s h
      refine ih (fun p hp => hs p (by simp [hp])) _ fun x hx => ?_
      have := hq p (hs p (by simp))
      rw [rlx_at, if_neg (by omega)]
      exact h x hx
  intro r
  induction r with
  | zero => intro x _; rfl
  | succ r ih => exact one q (fun _ h => h) _ ih
theorem rnds_all {a n : Nat} {M : Nat → Nat → Bool} (hs : Sup M n) {q : List (Int × Int)} (hq : ∀ p ∈ q, 0 ≤ p.1 ∧ M p.1.toNat p.2.toNat = true) (hM : ∀ x y, M x y = true → ∃ p ∈ q, p = ((x : Int), (y : Int))) (x : Nat) : rnds a q (n + 1) x = clo M n a x := by
  have hq2 : ∀ p ∈ q, p.2.toNat < n := fun p hp => (hs.lt (hq p hp).2).2
  have sound : ∀ r x, rnds a q r x = true → clo M n a x = true := by
    intro r
    induction r with
    | zero => intro x h; cases h
    | succ r ih => exact rnd_sound hs hq q (fun _ h => h) ih
  obtain ⟨r, hr, hfix⟩ := rnds_fix (a := a) (n := n) (q := q)
  have hfix' : rnds a q (r + 1) = rnds a q r := funext fun x => by
    by_cases hx : x < n
    · exact hfix x hx
    · rw [rnds_out hq2 _ x (by omega), rnds_out hq2 _ x (by omega)]
  have stay : ∀ d, rnds a q (r + d) = rnds a q r := by
    intro d
    induction d with
    | zero => rfl
    | succ d ih =>
      show rnd a q (rnds a q (r + d)) = _
      rw [ih]; exact hfix'
  have hlast : rnds a q (n + 1) = rnds a q r := by
    have := stay (n + 1 - r)
    rwa [show r + (n + 1 - r) = n + 1 by omega] at this
  have closed : ∀ p ∈ q, (p.1 = (a : Int) ∨ rnds a q r p.1.toNat = true) → rnds a q r p.2.toNat = true := fun p hp h => by
    have := rnd_closed q (s := rnds a q r) hp h
    have e : rnd a q (rnds a q r) = rnds a q r := hfix'
    rwa [e] at this
  apply bool_ext
  constructor
  · exact sound _ x
  · intro h
    rw [hlast]
    have htr : Tr fun u v => decide ((u = a → rnds a q r v = true) ∧ (rnds a q r u = true → rnds a q r v = true)) := by
      intro u v w h1 h2
      simp only [decide_eq_true_eq] at *
      exact ⟨fun e => h2.2 (h1.1 e), fun e => h2.2 (h1.2 e)⟩
    have := clo_least hs htr (fun u v e => by
      obtain ⟨p, hp, rfl⟩ := hM u v e
      simp only [decide_eq_true_eq]
      have := closed _ hp
      simp only [Int.toNat_natCast] at this
      exact ⟨fun e => this (.inl (by omega)), fun e => this (.inr e)⟩) h
    simp only [decide_eq_true_eq] at this
    exact this.1 (by trivial)

/-- Those of elements. -/
def inB (k : Nat) (p : Int × Int) : Bool := decide (0 ≤ p.1 ∧ p.1 < (k : Int) ∧ 0 ≤ p.2 ∧ p.2 < (k : Int))
def SRow (H : Hp) (b n : Nat) (s : Nat → Bool) : Prop := ∀ i, i < n → rd H b i = some (.bool (s i))

theorem relWays_law {n : Int} {lp : Option Addr} {ll lc : Nat} {l : List (Int × Int)} {from' : Int} {H : Hp} (wn : (Lit.int .u8 n).wf = true) (hl : Sn 2 pairC H lp ll lc l) (_ : ∀ x ∈ l, (Lit.int .i64 x.1).wf = true ∧ (Lit.int .i64 x.2).wf = true) (wf : (Lit.int .u8 from').wf = true) (hT : Tz H) :
    centolaw2_RelWays.C n lp ll lc from' H fun r H' => r = true ∧ Le H H' := by
  apply centolaw2_RelWays.of
  have bn := wf_u8 wn
  have bf := wf_u8 wf
  have hlen := hl.len
  refine centolaw2_known.c hT fun H0 le0 => ?_
  refine bcF ?_
  refine ⟨by decide, ?_⟩
  rw [show (20 : Int) = ((20 : Nat) : Int) from rfl, tmodN bn.1]
  have hm20 : n.toNat % 20 < 20 := Nat.mod_lt _ (by decide)
  refine chk (by omega) (chk (by omega) (bcd (fun _ => ⟨rfl, le0⟩) fun h1 => ?_))
  obtain ⟨k, hk⟩ : ∃ k : Nat, ((n.toNat % 20 : Nat) : Int) + 1 = (k : Int) := ⟨n.toNat % 20 + 1, by omega⟩
  rw [hk]
  refine ⟨fun p ql c i H' => ∃ i' : Nat, i = i' ∧ i' ≤ ll ∧ ql ≤ i' ∧ Le H0 H' ∧ Buf 2 H0 H' p ql c (((l.take i').filter (inB k)).flatMap pairC), fun _ _ _ i _ => (ll - i).toNat, ⟨0, rfl, by omega, by omega, Le.refl _, by simpa using Buf.none⟩, ?_⟩
  rintro p ql c i H1 ⟨i, rfl, hi, hql, le1, hB⟩
  have le01 := le0.trans le1
  refine bcd (fun h => ?_) (fun h => ?_)
  · have hil : i < l.length := by omega
    have hts := List.take_succ_eq_append_getElem hil
    have k1 : ∀ v : Bool, v = inB k l[i] → centolaw2_RelWays.k1 H1 (fun p ql c i H' => ∃ i' : Nat, i = i' ∧ i' ≤ ll ∧ ql ≤ i' ∧ Le H0 H' ∧ Buf 2 H0 H' p ql c (((l.take i').filter (inB k)).flatMap pairC)) i ll lp (fun _ _ _ i _ => (ll - i).toNat) c ql p v H1 := by
      intro v hv
      refine bc_i (fun e => ?_) (fun e => ?_)
      · refine snP (hl.le le01) (by omega) (by omega) fun _ => ?_
        simp only [Int.toNat_natCast]
        refine Buf.app1 hB le1 (new := [.int .i64 l[i].1, .int .i64 l[i].2]) rfl (by decide) rfl (by decide) rfl rfl (by simp [te_api_Pair]; omega) fun p' c' H2 hB2 hA2 _ => ?_
        refine chk (by omega) ⟨⟨i + 1, by omega, by omega, by omega, hA2, ?_⟩, by first | omega | (dsimp only; omega)⟩
        rw [hts, List.filter_append, List.flatMap_append, List.filter_cons_of_pos (by rw [← hv, e])]
        exact hB2
      · refine chk (by omega) ⟨⟨i + 1, by omega, by omega, by omega, le1, ?_⟩, by first | omega | (dsimp only; omega)⟩
        rw [hts, List.filter_append, List.filter_cons_of_neg (by rw [← hv, e]; simp)]
        simpa using hB
    refine snA (hl.le le01) (by omega) (by omega) fun _ => ?_
    simp only [Int.toNat_natCast]
    refine bcd (fun c1 => ?_) (fun c1 => k1 _ (decide_eq_false fun g => c1 g.1).symm)
    refine snA (hl.le le01) (by omega) (by omega) fun _ => ?_
    simp only [Int.toNat_natCast]
    refine bcd (fun c2 => ?_) (fun c2 => k1 _ (decide_eq_false fun g => c2 g.2.1).symm)
    refine snB (hl.le le01) (by omega) (by omega) fun _ => ?_
    simp only [Int.toNat_natCast]
    refine bcd (fun c3 => ?_) (fun c3 => k1 _ (decide_eq_false fun g => c3 g.2.2.1).symm)
    refine snB (hl.le le01) (by omega) (by omega) fun _ => ?_
    simp only [Int.toNat_natCast]
    refine k1 _ (decide_eq_decide.2 ⟨fun g => ⟨c1, c2, c3, g⟩, fun g => g.2.2.2⟩)
  · have e1 : l.take i = l := List.take_of_length_le (by omega)
    rw [e1] at hB
    have sq := hB.sn (f := pairC) (fun _ => rfl) (by decide)
    have hq : ∀ x ∈ l.filter (inB k), inB k x = true := fun x hx => (List.mem_filter.1 hx).2
    generalize l.filter (inB k) = q at *
    have hqin : ∀ x ∈ q, 0 ≤ x.1 ∧ x.1 < (k : Int) ∧ 0 ≤ x.2 ∧ x.2 < (k : Int) := fun x hx => of_decide_eq_true (hq x hx)
    have hql2 := sq.len
    have hok : okP q k = true := List.all_eq_true.2 fun x hx => hq x hx
    refine rel_Of.c sq (by omega) (hT.le le01) (fun h => by omega) (fun H' _ _ h => by rw [Int.toNat_natCast, hok] at h; cases h) fun R O H2 _ _ _ u2 hO le2 => ?_
    rw [Int.toNat_natCast] at u2
    refine bcd (fun h => absurd rfl h) fun _ => ?_
    have hs := u2.sup
    refine rel_Rel_Closure.c u2 fun R3 O3 H3 u3 hO3 le3 => ?_
    have le13 := le2.trans le3
    have le03 := le01.trans le13
    refine chk (by omega) ⟨by omega, ?_⟩
    rw [tmodN bf.1]
    have hak : from'.toNat % k < k := Nat.mod_lt _ (by omega)
    generalize from'.toNat % k = a at *
    refine mk rfl (by omega) (by omega) ?_
    intro b hb
    have le4 : Le H3 (upd H3 b (rep k [.bool false])) := .upd hb
    have hbH := none_of_le le03 hb
    have s4 : SRow (upd H3 b (rep k [.bool false])) b k (rnds a q 0) := fun i hi => rd_rep hi
    refine ⟨fun t H' => ∃ r : Nat, t = r ∧ r ≤ k + 1 ∧ Le H3 H' ∧ SRow H' b k (rnds a q r), fun t _ => (k + 1 - t).toNat, ⟨0, rfl, by omega, le4, s4⟩, ?_⟩
    rintro t H5 ⟨r, rfl, hr, le5, s5⟩
    refine bcd (fun h => ?_) (fun h => ?_)
    · refine ⟨fun t H' => ∃ i : Nat, t = i ∧ i ≤ ql ∧ Le H3 H' ∧ SRow H' b k ((q.take i).foldl (rlx a) (rnds a q r)), fun t _ => (ql - t).toNat, ⟨0, rfl, by omega, le5, by simpa using s5⟩, ?_⟩
      rintro t H6 ⟨i, rfl, hi, le6, s6⟩
      refine bcd (fun h => ?_) (fun h => ?_)
      · have hiq : i < q.length := by omega
        have sq6 := sq.le (le13.trans le6)
        have hin := hqin _ (List.getElem_mem hiq)
        have hfold : (q.take (i + 1)).foldl (rlx a) (rnds a q r) = rlx a ((q.take i).foldl (rlx a) (rnds a q r)) q[i] := by
          rw [List.take_succ_eq_append_getElem hiq, List.foldl_append]; rfl
        generalize hS : (q.take i).foldl (rlx a) (rnds a q r) = S at *
        have k2 : ∀ v : Bool, (v = true ↔ (q[i].1 = (a : Int) ∨ S q[i].1.toNat = true)) → centolaw2_RelWays.k2 H6 (fun t H' => ∃ i : Nat, t = i ∧ i ≤ ql ∧ Le H3 H' ∧ SRow H' b k ((q.take i).foldl (rlx a) (rnds a q r))) b i (fun t _ => (ql - t).toNat) k ql p v H6 := by
          intro v hv
          refine bc_i (fun e => ?_) (fun e => ?_)
          · refine snB sq6 (by omega) (by omega) fun _ => ?_
            simp only [Int.toNat_natCast]
            refine idxZ (by omega) (by omega) ?_
            have hy : q[i].2.toNat < k := by omega
            refine st0 (s6 _ hy) ?_
            refine chk (by omega) ⟨⟨i + 1, by omega, by omega, le6.wr hb, fun j hj => ?_⟩, by first | omega | (dsimp only; omega)⟩
            rw [hfold, rlx_at]
            by_cases ej : j = q[i].2.toNat
            · rw [if_pos ⟨hv.1 e, ej⟩]; subst ej; exact rd_wr_self (s6 _ hj)
            · rw [if_neg (fun g => ej g.2), rd_wr_off ej]; exact s6 j hj
          · refine chk (by omega) ⟨⟨i + 1, by omega, by omega, le6, ?_⟩, by first | omega | (dsimp only; omega)⟩
            rw [hfold]
            intro j hj
            rw [rlx_at, if_neg (fun g => by rw [hv.2 g.1] at e; cases e)]
            exact s6 j hj
        refine snA sq6 (by omega) (by omega) fun _ => ?_
        simp only [Int.toNat_natCast]
        refine bcd (fun h => k2 true ⟨fun _ => .inl h, fun _ => rfl⟩) (fun h => ?_)
        refine snA sq6 (by omega) (by omega) fun _ => ?_
        simp only [Int.toNat_natCast]
        refine idxZ (by omega) (by omega) ?_
        refine ldB_i (by rw [Nat.zero_add]; exact s6 _ (by omega)) ?_
        exact k2 _ ⟨fun h => .inr h, fun g => g.resolve_left h⟩
      · have e2 : q.take i = q := List.take_of_length_le (by omega)
        rw [e2] at s6
        exact chk (by omega) ⟨⟨r + 1, by omega, by omega, le6, s6⟩, by first | omega | (dsimp only; omega)⟩
    · obtain rfl : r = k + 1 := by omega
      have hfin : rnds a q (k + 1) = clo (ofM q k) k a := funext fun x => rnds_all hs (fun x hx => by
        have hin := hqin x hx
        refine ⟨hin.1, ?_⟩
        unfold ofM
        rw [Bool.and_eq_true, decide_eq_true_eq, List.any_eq_true]
        exact ⟨⟨by omega, by omega⟩, x, hx, decide_eq_true ⟨by omega, by omega⟩⟩) (fun x y e => by
        unfold ofM at e
        rw [Bool.and_eq_true, List.any_eq_true] at e
        obtain ⟨_, z, hz, e⟩ := e
        rw [decide_eq_true_eq] at e
        exact ⟨z, hz, Prod.ext e.1 e.2⟩) x
      rw [hfin] at s5
      have u5 := u3.le le5
      refine ⟨fun t H' => ∃ i : Nat, t = i ∧ i ≤ k ∧ H5 = H', fun t _ => (k - t).toNat, ⟨0, rfl, by omega, rfl⟩, ?_⟩
      rintro t _ ⟨y, rfl, hy, rfl⟩
      refine bcd (fun h => ?_) (fun h => ?_)
      · have hyk : y < k := by omega
        refine idx hyk ?_
        refine ldB_i (by rw [Nat.zero_add]; exact s5 y hyk) ?_
        refine rel_Rel_Has.c u5 ?_
        rw [hasM_nat]
        refine ⟨by rw [Nat.zero_add]; exact s5 y hyk, ?_⟩
        refine bcd (fun h => absurd rfl h) fun _ => ?_
        exact chk (by omega) ⟨⟨y + 1, by omega, by omega, rfl⟩, by first | omega | (dsimp only; omega)⟩
      · have hpl := prs_len_le (clo (clo (ofM q k) k) k) k
        have hk2 : k * k ≤ 400 := Nat.mul_le_mul (show k ≤ 20 by omega) (show k ≤ 20 by omega)
        refine rel_Rel_Closure.c u5 fun R6 O6 H6 u6 _ le6 => ?_
        refine rel_Rel_Pairs.c u6 fun p7 l7 c7 H7 s7 _ le7 => ?_
        refine rel_Rel_Pairs.c ((u5.le le6).le le7) fun p8 l8 c8 H8 s8 _ le8 => ?_
        refine centolaw2_same.c (s7.le le8) s8 (by omega) ?_
        rw [clo_clo hs, decide_eq_true rfl]
        refine bcT (rel_Rel_IsTransitive.c (((u5.le le6).le le7).le le8) fun H9 le9 => ?_)
        exact ⟨(trB_iff (clo_sup hs)).2 (clo_tr hs), ((((le03.trans le5).trans le6).trans le7).trans le8).trans le9⟩

set_option maxRecDepth 100000 in
theorem relWays_lifted (os : Os) (started : os.Started) (H : Type) (enc : TypeId × Value → H) :
    ReturnsInHanded {} Tryd.checked os 4 .any (fun w args => (Rows.relWaysSpec.pre enc Tryd.prog Tryd.f4 [] false w args ∧ laidMetH Tryd.prog laidTz w) ∧ sizedMet enc Tryd.prog Tryd.f4 (OpenSpec.ofChange Rows.relWaysSpec) false w args)
      (Rows.relWaysSpec.post enc Tryd.prog Tryd.f4 false true false false) := by
  refine returnsInHanded_of_change_and (C := Tryd.checked) (X := fun w _ => laidMetH Tryd.prog laidTz w) (fun _ _ _ hh h => h.of_heap hh) Tryd.own started (by kernel_rfl) Tryd.func4
    (ChangeSpec.witness_shaped (enc := enc) (C := Tryd.checked) (os := os) (X := fun w _ => laidMetH Tryd.prog laidTz w) false (World.doorLaid Tryd.prog 400 os) #[.int .u8 0, .slice Option.none 0 0, .int .u8 0] 8 rfl (World.shaped_of_RefB (by kernel_rfl) (by kernel_rfl)) (by kernel_rfl) (by kernel_rfl) (by kernel_rfl) (door_met os _)) ?_
  intro W base args ds gs before hval0 hW _ _ hL _
  have hval : ∀ (j : Nat) t v, Tryd.f4.params[j]? = some t → args[j]? = some v → Value.okWide Tryd.prog W .any base t v := hval0
  have hW' := hW
  obtain ⟨p, q, hA0, hV, rfl, hfz, hnd⟩ := hW
  have hA : DataW.TrodAll enc Tryd.prog W 0 (fun _ => true) true Tryd.f4.params.toList args.toList ds p := hA0
  rw [Tryd.params4] at hA hval
  obtain ⟨v0, v1, v2, d0, d1, d2, p0, p1, p2, rfl, rfl, rfl, h0, h1, h2⟩ := trodAll_three hA
  obtain ⟨x0, rfl, rfl, rfl, w0⟩ := open_int Tryd.underlying5 (hval 0 5 v0 rfl rfl) h0
  obtain ⟨q1, l1, c1, x1, rfl, s1⟩ := openSl (by decide) Tryd.underlying22 (opens_st Tryd.underlying30 (by kernel_rfl) (opensF_cons rfl (opens_int Tryd.underlying3 (by kernel_rfl)) rfl (opensF_one rfl (opens_int Tryd.underlying3 (by kernel_rfl))))) (hval 1 22 v1 rfl rfl) h1 (fun x hx => by simp [hx]) hfz
  obtain ⟨x2, rfl, rfl, rfl, w2⟩ := open_int Tryd.underlying5 (hval 2 5 v2 rfl rfl) h2
  refine (calls_true (CallH.true (relWays_law w0 s1.pairs s1.pairsWf w2 (tz_of_laid hL)))).mono fun e W' ⟨he, hk⟩ => ?_
  subst he
  exact ⟨_, rfl, post_true Tryd.laidOut hW' (by kernel_rfl) rfl rfl rfl Tryd.underlying4 hk⟩

theorem relWays_row : Rows.RelWaysSaid :=
  OpenClaim.holds_of_wide 4 Tryd.f4 rfl rfl rfl rfl rfl rfl rfl ⟨rfl, rfl, rfl, rfl, rfl⟩ rfl rfl rfl rfl rfl (by kernel_rfl) Tryd.func4 (by kernel_rfl)
    (of_decide_eq_true (by kernel_rfl)) (by unfold Func.isWrapper; first | (rw [if_pos (by decide +kernel)]; kernel_rfl) | (rw [if_neg (by decide +kernel)]; exact ⟨rfl, rfl⟩))
    (fun os started H enc _ => relWays_lifted os started H enc)

theorem relWays_card : Rows.RelWaysCardSaid :=
  Claim7.holds_tied_plain_at .later [] [.data] true (true, "f14aac9e52d846e16b45683151c3010fb29280cfdf5c2d90c2c3a166c41e4a9f") false
    relWays_row (fun _ h => by cases h) (by kernel_rfl) (fun _ h => by cases h) relWays_row_tie rfl ⟨rfl, rfl⟩ (by kernel_rfl) rfl
    (fun f fn hf hfn => by
      obtain rfl : f = 4 := Option.some.inj ((show Tryd.prog.funcNamed Rows.relWaysRow.func = some 4 by kernel_rfl).symm.trans hf) |>.symm
      obtain rfl : fn = Tryd.f4 := (Option.some.inj (Tryd.func4.symm.trans hfn)).symm
      exact ⟨by kernel_rfl, fun j t ht => by
        rw [Tryd.params4] at ht
        have hm : t ∈ [5, 22] := by
          have := Array.mem_of_getElem? ht
          simp at this
          first | (rcases this with rfl | rfl | rfl <;> simp) | simp [this]
        have hall : ([5, 22].all fun u => !Tryd.prog.wantsStandIn u) = true := by kernel_rfl
        exact (show Tryd.prog.wantsStandIn t = false by simpa using List.all_eq_true.1 hall t hm)⟩)
    (by kernel_rfl)
end Go.Proofs.YtcmooaimhloonaaDoor
