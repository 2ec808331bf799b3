/- Contracts. -/
import Derived.Test.YtimgnhleaekmhaaM11
import Derived.Test.YtimgnhleaekmhaaVcMem
namespace Go.Proofs.Ytimgnhleaekmhaa
open Go.V
/-! ### Union: of each element the least one of its class -/
def rt (to : List Nat) (a : Nat) : Nat := if to.getD a a < a then rt to (to.getD a a) else a
termination_by a
def OkU (to : List Nat) : Prop := ∀ i (h : i < to.length), to[i] ≤ i

theorem rt_lt {to : List Nat} {a g : Nat} (e : to.getD a a = g) (h : g < a) : rt to a = rt to g := by subst e; rw [rt, if_pos h]
theorem rt_ge {to : List Nat} {a : Nat} (h : ¬ to.getD a a < a) : rt to a = a := by rw [rt, if_neg h]
theorem rt_root {to : List Nat} {a : Nat} (h : to.getD a a = a) : rt to a = a := by rw [rt, if_neg (by omega)]
theorem rt_next {to : List Nat} (hok : OkU to) {a : Nat} (ha : a < to.length) : rt to a = rt to to[a] := by
  have e : to.getD a a = to[a] := by simp [List.getD, ha]
  have := hok a ha
  by_cases h : to[a] < a
  · rw [rt, e, if_pos h]
  · rw [show to[a] = a by omega]
theorem rt_le (to : List Nat) (a : Nat) : rt to a ≤ a := by
  rw [rt]
  split
  · have := rt_le to (to.getD a a); omega
  · exact Nat.le_refl a
termination_by a
theorem rt_is_root {to : List Nat} (hok : OkU to) (a : Nat) : to.getD (rt to a) (rt to a) = rt to a := by
  by_cases h : to.getD a a < a
  · rw [rt, if_pos h]; exact rt_is_root hok _
  · rw [rt, if_neg h]
    by_cases ha : a < to.length
    · have e : to.getD a a = to[a] := by simp [List.getD, ha]
      have := hok a ha
      omega
    · simp [List.getD, ha]
termination_by a
theorem rt_rt {to : List Nat} (hok : OkU to) (a : Nat) : rt to (rt to a) = rt to a := rt_root (rt_is_root hok a)

theorem getD_set {to : List Nat} {k x i : Nat} : (to.set k x).getD i i = if i = k ∧ k < to.length then x else to.getD i i := by
  by_cases h : i = k
  · subst h
    by_cases hi : i < to.length
    · simp [List.getD, hi]
    · simp [List.getD, hi]
  · rw [if_neg (fun e => h e.1)]
    simp only [List.getD, List.getElem?_set, if_neg (Ne.symm h)]

/-- A way cut short. -/
theorem rt_cut {to : List Nat} (hok : OkU to) {k : Nat} (hk : k < to.length) (i : Nat) : rt (to.set k (rt to k)) i = rt to i := by
  by_cases hr : to.getD k k = k
  · have e : rt to k = k := rt_root hr
    have : to.set k (rt to k) = to := by
      rw [e]
      apply List.ext_getElem?
      intro j
      by_cases hj : j = k
      · subst hj
        have e : to.getD j j = to[j] := by simp [List.getD, hk]
        simp only [List.getElem?_set, if_true, if_pos hk]
        rw [List.getElem?_eq_getElem hk, ← e, hr]
      · rw [List.getElem?_set, if_neg (Ne.symm hj)]
    rw [this]
  · have hle : to.getD k k < k := by
      have e : to.getD k k = to[k] := by simp [List.getD, hk]
      have := hok k hk; omega
    have hlt : rt to k < k := by
      rw [rt, if_pos hle]
      have := rt_le to (to.getD k k); omega
    by_cases h : i = k
    · subst h
      have e1 : (to.set i (rt to i)).getD i i = rt to i := by rw [getD_set, if_pos ⟨rfl, hk⟩]
      rw [rt_lt e1 hlt, rt_cut hok hk (rt to i), rt_rt hok]
    · have e1 : (to.set k (rt to k)).getD i i = to.getD i i := by rw [getD_set, if_neg (fun e => h e.1)]
      by_cases hi : to.getD i i < i
      · rw [rt_lt e1 hi, rt_cut hok hk (to.getD i i), ← rt_lt rfl hi]
      · rw [rt_ge (by rw [e1]; exact hi), rt_ge hi]
termination_by i

/-- Two classes made one. -/
theorem rt_join {to : List Nat} (hok : OkU to) {x y : Nat} (hy : y < to.length) (hxy : x < y) (rx : rt to x = x) (ry : rt to y = y) (i : Nat) :
    rt (to.set y x) i = if rt to i = y then x else rt to i := by
  have hgx : to.getD x x = x := by have := rt_is_root hok x; rw [rx] at this; exact this
  by_cases h : i = y
  · subst h
    have e1 : (to.set i x).getD i i = x := by rw [getD_set, if_pos ⟨rfl, hy⟩]
    rw [rt_lt e1 hxy, ry, if_pos rfl]
    apply rt_root
    rw [getD_set, if_neg (by omega), hgx]
  · have e1 : (to.set y x).getD i i = to.getD i i := by rw [getD_set, if_neg (fun e => h e.1)]
    by_cases hi : to.getD i i < i
    · rw [rt_lt e1 hi, rt_join hok hy hxy rx ry (to.getD i i), ← rt_lt rfl hi]
    · rw [rt_ge (by rw [e1]; exact hi), rt_ge hi, if_neg h]
termination_by i

/-- The block u is one whose elements' next ones lie in block q. -/
def Un (H : Hp) (u q : Nat) (to : List Nat) : Prop :=
  u ≠ q ∧ (∃ c, to.length ≤ c ∧ rd H u 0 = some (.slice (some ⟨q, 0, none⟩) to.length c)) ∧ (∃ cs, H q = some cs) ∧ ∀ i (h : i < to.length), rd H q i = some (iv to[i])
theorem Un.mod {O : List Nat} {H H' : Hp} {u q : Nat} {to : List Nat} (h : Un H u q to) (hm : Mod O H H') (hu : u ∉ O) (hq : q ∉ O) : Un H' u q to := by
  obtain ⟨h0, ⟨c, h1, h2⟩, ⟨cs, h3⟩, h4⟩ := h
  exact ⟨h0, ⟨c, h1, hm.rd hu h2⟩, ⟨cs, hm _ hq _ h3⟩, fun i hi => hm.rd hq (h4 i hi)⟩
theorem Un.put {H : Hp} {u q : Nat} {to : List Nat} (h : Un H u q to) {i x : Nat} (hi : i < to.length) : Un (wr H q i (iv x)) u q (to.set i x) := by
  obtain ⟨h0, ⟨c, h1, h2⟩, ⟨cs, h3⟩, h4⟩ := h
  refine ⟨h0, ⟨c, by simpa using h1, ?_⟩, ⟨cs.set i (iv x), by unfold wr; rw [if_pos rfl, h3]; rfl⟩, fun j hj => ?_⟩
  · rw [rd_wr_ne h0]; simpa using h2
  · by_cases e : j = i
    · subst e; rw [rd_wr_self (h4 _ hi)]; simp
    · rw [rd_wr_off e, h4 _ (by simpa using hj)]; simp [Ne.symm e]
theorem OkU.set {to : List Nat} (h : OkU to) {i x : Nat} (hx : x ≤ i) : OkU (to.set i x) := fun j hj => by
  rw [List.getElem_set]
  split
  · omega
  · exact h j _

/-- .. and L has of each element the least one of its class. -/
def UF (H : Hp) (u q : Nat) (L : List Nat) : Prop := ∃ to, Un H u q to ∧ OkU to ∧ to.length = L.length ∧ ∀ i (h : i < L.length), L[i] = rt to i
def GoodL (L : List Nat) : Prop := ∀ i (h : i < L.length), L[i] ≤ i ∧ ∃ h' : L[i] < L.length, L[L[i]] = L[i]
theorem UF.good {H : Hp} {u q : Nat} {L : List Nat} (h : UF H u q L) : GoodL L := by
  obtain ⟨to, _, hok, hl, hL⟩ := h
  intro i hi
  have h1 := rt_le to i
  have e := hL i hi
  refine ⟨by omega, by omega, ?_⟩
  rw [hL L[i] (by omega), e, rt_rt hok]
theorem UF.mod {O : List Nat} {H H' : Hp} {u q : Nat} {L : List Nat} (h : UF H u q L) (hm : Mod O H H') (hu : u ∉ O) (hq : q ∉ O) : UF H' u q L := by
  obtain ⟨to, h1, h2⟩ := h; exact ⟨to, h1.mod hm hu hq, h2⟩
theorem UF.le {H H' : Hp} {u q : Nat} {L : List Nat} (h : UF H u q L) (hm : Le H H') : UF H' u q L := h.mod hm.mod (O := []) (by simp) (by simp)
theorem UF.at {H : Hp} {u q : Nat} {L : List Nat} (h : UF H u q L) : ∃ c, rd H u 0 = some (.slice (some ⟨q, 0, none⟩) L.length c) ∧ L.length ≤ c := by
  obtain ⟨to, ⟨_, ⟨c, h1, h2⟩, _⟩, _, hl, _⟩ := h
  exact ⟨c, by rw [← hl]; exact h2, by omega⟩
theorem UF.u {H : Hp} {u q : Nat} {L : List Nat} (h : UF H u q L) : H u ≠ none := by obtain ⟨c, h, _⟩ := h.at; exact ne_none_of_rd h
theorem UF.q {H : Hp} {u q : Nat} {L : List Nat} (h : UF H u q L) : H q ≠ none := by obtain ⟨to, ⟨_, _, ⟨cs, h⟩, _⟩, _⟩ := h; rw [h]; intro e; cases e
theorem UF.ne {H : Hp} {u q : Nat} {L : List Nat} (h : UF H u q L) : u ≠ q := by obtain ⟨to, ⟨h, _⟩, _⟩ := h; exact h

/-- The least one of an element's class; -1 of none. -/
def lstI (L : List Nat) (a : Int) : Int := if 0 ≤ a ∧ a < (L.length : Int) then (L.getD a.toNat 0 : Nat) else -1

theorem union_Union_way.c {u : Option Addr} {a : Int} {H : Hp} {K : Value → Hp → Prop}
    (hK : ∀ c1 c2 H', H c1 = none → H c2 = none → c1 ≠ c2 → rd H' c1 0 = some (.int .i64 a) → rd H' c2 0 = some (.pointer u) → Le H H' →
      K (.func (.func union_Union_way_1.num) ⟨[]⟩ ⟨[.pointer (some ⟨c1, 0, none⟩), .pointer (some ⟨c2, 0, none⟩)]⟩) H') : union_Union_way.C u a H K := by
  apply union_Union_way.of
  intro c2 h2 c1 h1
  have hne : c1 ≠ c2 := fun e => by subst e; simp [upd] at h1
  exact hK c1 c2 _ (none_of_le (.upd h2) h1) h2 hne (by rw [rd_upd_self]; rfl) (by rw [rd_upd_ne (Ne.symm hne), rd_upd_self]; rfl) ((Le.upd h2).trans (.upd h1))

/-- The way from an element: the last one told is the least one of its class. -/
theorem way_last {u q c1 c2 last : Nat} {to : List Nat} (hok : OkU to) {a : Nat} (ha : a < to.length) {A H : Hp} {K : Al → Hp → Prop} (hu : Un A u q to) (h1 : A c1 = none) (h3 : A last = none) (n12 : c1 ≠ c2) (n1 : c1 ≠ last) (n2 : c2 ≠ last)
    (r1 : rd H c1 0 = some (iv a)) (r2 : rd H c2 0 = some (.pointer (some ⟨u, 0, none⟩))) (r3 : ∃ n : Int, rd H last 0 = some (.int .i64 n)) (hle : Le A H)
    (hK : ∀ H', rd H' last 0 = some (iv (rt to a)) → Le A H' → K .on H') :
    union_Union_way_1.I c1 c2 H (fun z Hx Kb => ST Hx last 0 (.int .i64 z) fun Hy => Kb .on Hy) K := by
  apply union_Union_way_1.of
  obtain ⟨hne, ⟨c, hc, hrd⟩, _, hto⟩ := hu
  refine ⟨fun H' => ∃ x : Nat, x < to.length ∧ rt to x = rt to a ∧ rd H' c1 0 = some (iv x) ∧ rd H' c2 0 = some (.pointer (some ⟨u, 0, none⟩)) ∧ (∃ n : Int, rd H' last 0 = some (.int .i64 n)) ∧ Le A H',
    fun H' => match rd H' c1 0 with | some (.int _ n) => n.toNat | _ => 0, ⟨a, ha, rfl, r1, r2, r3, hle⟩, ?_⟩
  rintro H1 ⟨x, hx, hrt, g1, g2, ⟨n, g3⟩, gle⟩
  refine ldI_i g1 (st g3 ?_)
  have le2 : Le A (wr H1 last 0 (.int .i64 (x : Int))) := gle.wr h3
  have f1 : rd (wr H1 last 0 (.int .i64 (x : Int))) c1 0 = some (iv x) := by rw [rd_wr_ne n1]; exact g1
  have f2 : rd (wr H1 last 0 (.int .i64 (x : Int))) c2 0 = some (.pointer (some ⟨u, 0, none⟩)) := by rw [rd_wr_ne n2]; exact g2
  have f3 : rd (wr H1 last 0 (.int .i64 (x : Int))) last 0 = some (iv x) := rd_wr_self g3
  generalize wr H1 last 0 (.int .i64 (x : Int)) = H2 at *
  show ldP _ _
  have e0 := hto x hx
  refine ldP_i f2 (nil (ldL_i (le2.rd hrd) (ldI_i f1 (idx hx (nil (ldI_i (by rw [Nat.zero_add]; exact le2.rd e0) (ldI_i f1 (bcd (fun hn => ?_) (fun hn => ?_)))))))))
  · refine ldP_i f2 (nil (ldL_i (le2.rd hrd) (ldI_i f1 (idx hx (nil (ldI_i (by rw [Nat.zero_add]; exact le2.rd e0) (st f1 ⟨⟨to[x], ?_, ?_, ?_, ?_, ⟨x, ?_⟩, le2.wr h1⟩, ?_⟩)))))))
    · have := hok x hx; omega
    · rw [← hrt, rt_next hok hx]
    · exact rd_wr_self f1
    · rw [rd_wr_ne n12.symm]; exact f2
    · rw [rd_wr_ne n1.symm]; exact f3
    · have e1 : rd (wr H2 c1 0 (.int .i64 ((to[x] : Nat) : Int))) c1 0 = some (iv to[x]) := rd_wr_self f1
      have hlt := hok x hx
      have hx' : to[x] < x := by omega
      dsimp only
      rw [e1, g1]
      simp only [iv]; omega
  · have hx' : to[x] = x := by omega
    refine hK _ ?_ le2
    rw [f3, ← hrt, rt_root (by simp [List.getD, hx, hx'])]

theorem union_Union_Least.c {u q : Nat} {L : List Nat} {a : Int} {H : Hp} {K : Int → Hp → Prop} (hu : UF H u q L) (hK : ∀ H', UF H' u q L → Mod [q] H H' → K (lstI L a) H') : union_Union_Least.C (some ⟨u, 0, none⟩) a H K := by
  apply union_Union_Least.of
  obtain ⟨c0, hrd0, hc0⟩ := hu.at
  have hno : ¬ (0 ≤ a ∧ a < (L.length : Int)) → K (-1) H := fun h => by have := hK H hu .refl; rwa [lstI, if_neg h] at this
  refine bcd (fun h => hno (by omega)) (fun h => nil (ldL_i hrd0 (bcd (fun h' => hno (by omega)) (fun h' => ?_))))
  obtain ⟨a, rfl⟩ : ∃ n : Nat, a = n := ⟨a.toNat, by omega⟩
  have hne := hu.ne
  obtain ⟨to, hU, hok, hlen, hL⟩ := hu
  intro last hlast
  have hl0 : rd (upd H last [.int .i64 0]) last 0 = some (.int .i64 0) := by rw [rd_upd_self]; rfl
  refine st hl0 (union_Union_way.c fun c1 c2 H1 n1 n2 n12 r1 r2 le1 => ?_)
  have hl1 : rd (wr (upd H last [.int .i64 0]) last 0 (.int .i64 (a : Int))) last 0 = some (.int .i64 (a : Int)) := rd_wr_self hl0
  have leA : Le H (wr (upd H last [.int .i64 0]) last 0 (.int .i64 (a : Int))) := (Le.upd hlast).wr hlast
  show union_Union_way_1.I c1 c2 H1 _ _
  have m1 : c1 ≠ last := fun e => by subst e; exact ne_none_of_rd hl1 n1
  have m2 : c2 ≠ last := fun e => by subst e; exact ne_none_of_rd hl1 n2
  refine way_last hok (a := a) (by omega) hU (none_of_le leA n1) hlast n12 m1 m2 r1 r2 ⟨_, le1.rd hl1⟩ (leA.trans le1) fun H2 e2 le2 => ?_
  have ⟨_, ⟨c, hc, hrd⟩, hq, hto⟩ := hU
  have hql : last ≠ q := fun e => by subst e; obtain ⟨cs, hq⟩ := hq; rw [hlast] at hq; cases hq
  have ea := hto a (by omega)
  refine alOn (nil ?_)
  refine ldL_i (le2.rd hrd) ?_
  refine ldI_i e2 ?_
  refine idx (by omega) ?_
  refine nil ?_
  refine st0 (le2.rd ea) ?_
  refine ldI_i (by rw [rd_wr_ne hql]; exact e2) ?_
  have e : ((rt to a : Nat) : Int) = lstI L a := by
    rw [lstI, if_pos (by omega)]
    have : a < L.length := by omega
    simp only [Int.toNat_natCast, List.getD, List.getElem?_eq_getElem this, Option.getD_some, hL a this]
  have key := hK _ ⟨to.set a (rt to a), (hU.mod (O := []) le2.mod (by simp) (by simp)).put (i := a) (x := rt to a) (by omega), hok.set (rt_le to a), by simpa using hlen, fun i hi => by rw [hL i hi, rt_cut hok (by omega)]⟩ (Mod.wr (le2.mod) (.inl (by simp)))
  rw [← e] at key
  exact key
end Go.Proofs.Ytimgnhleaekmhaa
