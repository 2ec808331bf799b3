/- Contracts. -/
import Derived.Test.YtimgnhleaekmhaaM2
namespace Go.Proofs.Ytimgnhleaekmhaa
open Go.V
/-! ### The functions of match -/
theorem first_take {p : Option Addr} {l c : Nat} {xs : List ByteArray} {H : Hp} {F : Option Addr → Nat → Nat → Hp → Prop} (hx : Sl Value.string H p l c xs)
    (hK : ∀ p' l' c', Sl Value.string H p' l' c' (xs.take 200) → F p' l' c' H) : BND Option.none (some (min ((l : Nat) : Int) (200 : Int))) l c fun j k => F (movA p j 1 c) (k - j) (c - j) H := by
  have h1 := hx.1
  have h2 := hx.2.1
  refine ⟨min xs.length 200, by omega, by omega, hK _ _ _ ?_⟩
  have := hx.take (k := min xs.length 200) (by omega)
  rwa [show List.take (min xs.length 200) xs = xs.take 200 by rw [Nat.min_comm, ← List.take_eq_take_min]] at this

theorem match_first.c {p : Option Addr} {l c : Nat} {xs : List ByteArray} {H : Hp} {K : Option Addr → Nat → Nat → Hp → Prop} (hx : Sl Value.string H p l c xs)
    (hK : ∀ p' l' c', Sl Value.string H p' l' c' (xs.take 200) → K p' l' c' H) : match_first.C p l c H K := match_first.of _ _ _ (first_take hx hK)
theorem centoref10_first.c {p : Option Addr} {l c : Nat} {xs : List ByteArray} {H : Hp} {K : Option Addr → Nat → Nat → Hp → Prop} (hx : Sl Value.string H p l c xs)
    (hK : ∀ p' l' c', Sl Value.string H p' l' c' (xs.take 200) → K p' l' c' H) : centoref10_first.C p l c H K := centoref10_first.of _ _ _ (first_take hx hK)

theorem match_Length.c {ap bp : Option Addr} {al ac bl bc' : Nat} {a b : List ByteArray} {H : Hp} {K : Int → Hp → Prop} (ha : Sl Value.string H ap al ac a) (hb : Sl Value.string H bp bl bc' b)
    (hK : ∀ H', Le H H' → K (lcs (a.take 200) (b.take 200) : Nat) H') : match_Length.C ap al ac bp bl bc' H K := by
  apply match_Length.of
  refine match_first.c ha fun ap' al' ac' ha' => match_first.c hb fun bp' bl' bc'' hb' => match_of.c ha' hb' (by simp; omega) (by simp; omega) fun t H1 hT hle => ?_
  have := hT 0 0 (by omega) (by omega)
  have hl := lcs_le_left (a.take 200) (b.take 200)
  simp only [List.length_take] at hl
  exact idx0 (by omega) (idx0 (by omega) (ldI_i (by simpa using this) (chk (by omega) (hK _ hle))))

def Pairs (H : Hp) (p : Option Addr) (l c : Nat) (xs : List (Int × Int)) : Prop := Sn 2 pairC H p l c xs

theorem match_Longest.c {ap bp : Option Addr} {al ac bl bc' : Nat} {a b : List ByteArray} {H : Hp} {K : Option Addr → Nat → Nat → Hp → Prop} (ha : Sl Value.string H ap al ac a) (hb : Sl Value.string H bp bl bc' b)
    (hK : ∀ p l c r H', Gr (a.take 200) (b.take 200) 0 0 r → Sn 2 pairC H' p l c r → Le H H' → K p l c H') : match_Longest.C ap al ac bp bl bc' H K := by
  apply match_Longest.of
  refine match_first.c ha fun ap al ac ha => match_first.c hb fun bp bl bc' hb => match_of.c ha hb (by simp; omega) (by simp; omega) fun t H1 hT hle => ?_
  have la : (a.take 200).length ≤ 200 := by simp; omega
  have lb : (b.take 200).length ≤ 200 := by simp; omega
  generalize a.take 200 = a at *
  generalize b.take 200 = b at *
  have hal := ha.len
  have hbl := hb.len
  refine ⟨fun op ol oc from' i H' => ∃ i' f' : Nat, i = i' ∧ from' = f' ∧ i' ≤ a.length ∧ f' ≤ b.length ∧ ol ≤ i' ∧ Le H1 H' ∧ ∃ r, Buf 2 H1 H' op ol oc (r.flatMap pairC) ∧ ∀ s, Gr a b i' f' s → Gr a b 0 0 (r ++ s), fun _ _ _ _ i _ => (al - i).toNat,
    ⟨0, 0, rfl, rfl, by omega, by omega, by omega, Le.refl _, [], Buf.none, fun s h => h⟩, ?_⟩
  rintro op ol oc from' i H2 ⟨i, f, rfl, rfl, hi, hf, hol, hle2, r, hB, hG⟩
  have hle' := hle.trans hle2
  refine bcd (fun h => ?_) (fun h => ?_)
  · have hV : V a b i f = lcs (a.drop i) (b.drop f) := rfl
    refine idx (by omega) (idx (by omega) (ldI_i (by rw [Nat.zero_add]; exact hle2.rd (hT i f (by omega) (by omega))) ?_))
    refine ⟨fun op' ol' oc' from'' k H' => ∃ k' : Nat, k = k' ∧ k' ≤ b.length ∧ f ≤ k' ∧ op' = op ∧ ol' = ol ∧ oc' = oc ∧ from'' = f ∧ H' = H2 ∧ ∀ q, f ≤ q → q < k' → ¬ Mt a b (V a b i f) i q, fun _ _ _ _ k _ => (bl - k).toNat, ⟨f, rfl, by omega, by omega, rfl, rfl, rfl, rfl, rfl, fun q h1 h2 => by omega⟩, ?_⟩
    rintro op' ol' oc' from'' k H' ⟨k, rfl, hk, hfk, rfl, rfl, rfl, rfl, rfl, hno⟩
    refine bcd (fun h' => ?_) (fun h' => ?_)
    · refine slS (ha.le hle') (g := id) (fun _ => rfl) (by omega) (by omega) fun hi' => slS (hb.le hle') (g := id) (fun _ => rfl) (by omega) (by omega) fun hk' => ?_
      simp only [id, Int.toNat_natCast] at *
      have hi' : i < a.length := hi'
      have hk' : k < b.length := hk'
      have hlcs := lcs_le_left (a.drop (i + 1)) (b.drop (k + 1))
      simp only [List.length_drop] at hlcs
      have next : ¬ Mt a b (V a b i f) i k → ∃ k' : Nat, (k : Int) + 1 = k' ∧ k' ≤ b.length ∧ f ≤ k' ∧ op' = op' ∧ ol' = ol' ∧ oc' = oc' ∧ (f : Int) = f ∧ H' = H' ∧ ∀ q, f ≤ q → q < k' → ¬ Mt a b (V a b i f) i q := fun hn =>
        ⟨k + 1, by omega, by omega, by omega, rfl, rfl, rfl, rfl, rfl, fun q h1 h2 => by
          by_cases e : q = k
          · exact e ▸ hn
          · exact hno q h1 (by omega)⟩
      refine bcd (fun e => ?_) (fun e => ?_)
      · refine chk (by omega) (chk (by omega) (idxN (i + 1) (by omega) (by omega) (idxN (k + 1) (by omega) (by omega) (ldI_i (by rw [Nat.zero_add]; exact hle2.rd (hT (i + 1) (k + 1) (by omega) (by omega))) (chkU8 (by omega) (bcd (fun e' => ?_) (fun e' => ?_)))))))
        · have hm : Mt a b (V a b i f) i k := ⟨hi', hk', by rw [List.getElem?_eq_getElem hi', List.getElem?_eq_getElem hk', e], by unfold V; omega⟩
          refine Buf.app1 hB hle2 rfl (by decide) rfl (by decide) rfl rfl (by simp [te_api_Pair]; omega) fun p' c' H3 hB' hA' _ => ?_
          refine chk (by omega) (chk (by omega) ⟨⟨i + 1, k + 1, by omega, by omega, by omega, by omega, by omega, hA', r ++ [((i : Int), (k : Int))], by simpa [pairC] using hB', fun s hs => ?_⟩, by dsimp only; omega⟩)
          rw [List.append_assoc]
          exact hG _ (.cons (Nat.le_refl _) hfk hm (fun p' q' h1 h2 h3 => by
            obtain rfl : p' = i := by omega
            exact hno q' h2 (by omega)) hs)
        · exact chk (by omega) ⟨next fun hm => e' (by have := hm.2.2.2; unfold V at this; omega), by dsimp only; omega⟩
      · unfold match_Longest.k1
        rw [bc_false]
        exact chk (by omega) ⟨next fun hm => e (by have := hm.2.2.1; rw [List.getElem?_eq_getElem hi', List.getElem?_eq_getElem hk'] at this; exact Option.some.inj this), by dsimp only; omega⟩
    · refine chk (by omega) ⟨⟨i + 1, f, by omega, rfl, by omega, by omega, by omega, hle2, r, hB, fun s hs => hG s (Gr.skip (by omega) (fun q hq hm => ?_) hs)⟩, by dsimp only; omega⟩
      exact hno q hq (by have := hm.2.1; omega) hm
  · have hi' : i = a.length := by omega
    refine hK _ _ _ r _ (by simpa using hG [] (Gr.none (.inl (by omega)))) (hB.sn (f := pairC) (fun _ => rfl) (by decide)) hle'

/-! ### Is it a matching? -/
def Okp (a b : List ByteArray) (u p : Int × Int) : Prop := u.1 < p.1 ∧ u.2 < p.2 ∧ p.1 < a.length ∧ p.2 < b.length ∧ a[p.1.toNat]? = b[p.2.toNat]?
instance {a b : List ByteArray} {u p : Int × Int} : Decidable (Okp a b u p) := by unfold Okp; infer_instance
def isM (a b : List ByteArray) : Int × Int → List (Int × Int) → Bool
  | _, [] => true
  | u, p :: r => decide (Okp a b u p) && isM a b p r
def prv (l : List (Int × Int)) (i : Nat) : Int × Int := if i = 0 then (-1, -1) else l[i - 1]?.getD (-1, -1)
theorem prv_succ {l : List (Int × Int)} {i : Nat} (h : i < l.length) : prv l (i + 1) = l[i] := by simp [prv, h]
theorem isM_no {a b : List ByteArray} {l : List (Int × Int)} {i : Nat} {u : Int × Int} {r : Bool} (h : i < l.length) (e : r = isM a b u (l.drop i)) (hn : ¬ Okp a b u l[i]) : r = false := by
  rw [e, List.drop_eq_getElem_cons h, isM, decide_eq_false hn]; rfl
theorem isM_yes {a b : List ByteArray} {l : List (Int × Int)} {i : Nat} {r : Bool} (h : i < l.length) (e : r = isM a b (prv l i) (l.drop i)) (hn : Okp a b (prv l i) l[i]) : r = isM a b (prv l (i + 1)) (l.drop (i + 1)) := by
  rw [e, List.drop_eq_getElem_cons h, isM, decide_eq_true hn, prv_succ h]; rfl

theorem match_Is.c {ap bp lp : Option Addr} {al ac bl bc' ll lc : Nat} {a b : List ByteArray} {l : List (Int × Int)} {H : Hp} {K : Bool → Hp → Prop} (ha : Sl Value.string H ap al ac a) (hb : Sl Value.string H bp bl bc' b)
    (hl : Sn 2 pairC H lp ll lc l) (hll : l.length ≤ 1000000000) (hK : ∀ H', Le H H' → K (isM (a.take 200) (b.take 200) (-1, -1) l) H') : match_Is.C ap al ac bp bl bc' lp ll lc H K := by
  apply match_Is.of
  refine match_first.c ha fun ap al ac ha => match_first.c hb fun bp bl bc' hb => ?_
  generalize a.take 200 = a at *
  generalize b.take 200 = b at *
  have hal := ha.len
  have hbl := hb.len
  have hlen := hl.len
  refine newP fun u hu => ?_
  refine ⟨fun i H' => ∃ i' : Nat, i = i' ∧ i' ≤ l.length ∧ Le H H' ∧ rd H' u 0 = some (.int .i64 (prv l i').1) ∧ rd H' u 1 = some (.int .i64 (prv l i').2) ∧ -1 ≤ (prv l i').1 ∧ -1 ≤ (prv l i').2 ∧ isM a b (-1, -1) l = isM a b (prv l i') (l.drop i'), fun i _ => (ll - i).toNat,
    ⟨0, rfl, by omega, Le.upd hu, by rw [rd_upd_self]; rfl, by rw [rd_upd_self]; rfl, by simp [prv], by simp [prv], by simp [prv]⟩, ?_⟩
  rintro i H1 ⟨i, rfl, hi, hle, h0, h1, g0, g1, hM⟩
  refine bcd (fun h => ?_) (fun h => ?_)
  · refine snP (hl.le hle) (by omega) (by omega) fun hi' => newP fun v hv => ?_
    simp only [Int.toNat_natCast] at *
    have hi' : i < l.length := hi'
    have hvu := ne_of_rd h0 hv
    have hle' := hle.trans (Le.upd (c := [.int .i64 l[i].1, .int .i64 l[i].2]) hv)
    have hno := isM_no hi' hM
    refine ldI_i rd_upd_self (ldI_i (by rw [rd_upd_ne hvu]; exact h0) (bcd (fun e => ?_) (fun e1 => ?_)))
    · rw [← hno (fun ho => by have := ho.1; omega)]; exact hK _ hle'
    refine ldI_i rd_upd_self (ldI_i (by rw [rd_upd_ne hvu]; exact h1) (bcd (fun e => ?_) (fun e2 => ?_)))
    · rw [← hno (fun ho => by have := ho.2.1; omega)]; exact hK _ hle'
    refine ldI_i rd_upd_self (bcd (fun e => ?_) (fun e3 => ?_))
    · rw [← hno (fun ho => by have := ho.2.2.1; omega)]; exact hK _ hle'
    refine ldI_i rd_upd_self (bcd (fun e => ?_) (fun e4 => ?_))
    · rw [← hno (fun ho => by have := ho.2.2.2.1; omega)]; exact hK _ hle'
    refine ldI_i rd_upd_self (slS (ha.le hle') (g := id) (fun _ => rfl) (by omega) (by omega) fun j1 => ldI_i rd_upd_self (slS (hb.le hle') (g := id) (fun _ => rfl) (by omega) (by omega) fun j2 => bcd (fun e => ?_) (fun e5 => ?_)))
    · rw [← hno (fun ho => e (by have := ho.2.2.2.2; rw [List.getElem?_eq_getElem j1, List.getElem?_eq_getElem j2] at this; exact Option.some.inj this))]; exact hK _ hle'
    refine ldI_i rd_upd_self (ldI_i rd_upd_self ⟨by rw [rd_upd_ne hvu, h0]; rfl, by rw [rd_wr_off (by decide), rd_upd_ne hvu, h1]; rfl, chk (by omega) ⟨⟨i + 1, by omega, by omega, (hle'.wr hu).wr hu, ?_, ?_, ?_, ?_, ?_⟩, by first | omega | (dsimp only; omega)⟩⟩)
    · rw [rd_wr_off (by decide), rd_wr_self (by rw [rd_upd_ne hvu]; exact h0), prv_succ hi']
    · rw [rd_wr_self (by rw [rd_wr_off (by decide), rd_upd_ne hvu]; exact h1), prv_succ hi']
    · rw [prv_succ hi']; omega
    · rw [prv_succ hi']; omega
    · exact isM_yes hi' hM ⟨by omega, by omega, by omega, by omega, by rw [List.getElem?_eq_getElem j1, List.getElem?_eq_getElem j2]; exact congrArg some (Decidable.not_not.1 e5)⟩
  · have : i = l.length := by omega
    subst this
    rw [List.drop_length] at hM
    have := hK _ hle
    rwa [hM] at this
end Go.Proofs.Ytimgnhleaekmhaa
