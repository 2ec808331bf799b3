/- Contracts. -/
import Derived.Test.YtjfohhgmapipnaaN5
namespace Go.Proofs.Ytjfohhgmapipnaa
open Go.V
/-! ### What is kept -/
theorem pad64 {b : BL} (h : b.length ≤ 64) : (pad b).length = 64 := by simp [pad]; omega
theorem chunks_64 : ∀ (n : Nat) (b : BL), b.length ≤ n → ∀ x ∈ chunks b, x.length = 64
  | 0, b, h, x, hx => by rw [List.length_eq_zero_iff.1 (Nat.le_zero.1 h), chunks_nil] at hx; cases hx
  | n + 1, b, h, x, hx => by
    by_cases hb : b = []
    · rw [hb, chunks_nil] at hx; cases hx
    · rw [chunks_cons hb] at hx
      rcases List.mem_cons.1 hx with rfl | hx
      · exact pad64 (by rw [List.length_take]; omega)
      · exact chunks_64 n _ (by have := List.length_pos_iff.2 hb; rw [List.length_drop]; omega) x hx
theorem chunks_len : ∀ (S : Nat) (b : BL), b.length ≤ 64 * S → (chunks b).length ≤ S
  | 0, b, h => by rw [List.length_eq_zero_iff.1 (show b.length = 0 by omega), chunks_nil]; simp
  | S + 1, b, h => by
    by_cases hb : b = []
    · rw [hb, chunks_nil]; simp
    · rw [chunks_cons hb, List.length_cons]
      have := chunks_len S (b.drop 64) (by rw [List.length_drop]; omega)
      omega
theorem chunks_back : ∀ (n : Nat) (b : BL), b.length ≤ n → ∃ z, (chunks b).flatten = b ++ z
  | 0, b, h => by rw [List.length_eq_zero_iff.1 (Nat.le_zero.1 h), chunks_nil]; exact ⟨[], rfl⟩
  | n + 1, b, h => by
    by_cases hb : b = []
    · rw [hb, chunks_nil]; exact ⟨[], rfl⟩
    · obtain ⟨z, hz⟩ := chunks_back n (b.drop 64) (by have := List.length_pos_iff.2 hb; rw [List.length_drop]; omega)
      rw [chunks_cons hb, List.flatten_cons, hz]
      by_cases h64 : b.length ≤ 64
      · rw [List.drop_of_length_le h64, List.take_of_length_le h64, pad]
        exact ⟨List.replicate (64 - b.length) 0 ++ ([] ++ z), by rw [List.append_assoc]⟩
      · refine ⟨z, ?_⟩
        have : pad (b.take 64) = b.take 64 := by unfold pad; rw [List.length_take, show 64 - min 64 b.length = 0 by omega]; simp
        rw [this, ← List.append_assoc, List.take_append_drop]
theorem numW_in : ∀ (cs : List BL) (i : Nat) (x : Nat × BL), x ∈ numW i cs → i ≤ x.1 ∧ x.1 < i + cs.length ∧ x.2 ∈ cs
  | [], i, x, h => by cases h
  | y :: cs, i, x, h => by
    rw [numW] at h
    rcases List.mem_cons.1 h with rfl | h
    · simp
    · obtain ⟨h1, h2, h3⟩ := numW_in cs (i + 1) x h
      exact ⟨by omega, by rw [List.length_cons]; omega, List.mem_cons_of_mem _ h3⟩
theorem keep_all : ∀ (cs : List BL) (i k : Nat) (l : List BL), i + cs.length ≤ l.length → keepF (fun _ => true) k l (numW i cs) = l.take i ++ (cs ++ l.drop (i + cs.length))
  | [], i, k, l, h => by simp [numW, keepF]
  | y :: cs, i, k, l, h => by
    rw [List.length_cons] at h
    rw [numW, keepF, if_pos rfl, keep_all cs (i + 1) (k + 1) (l.set i y) (by rw [List.length_set]; omega)]
    have e1 : (l.set i y).take (i + 1) = l.take i ++ [y] := by
      rw [List.take_succ_eq_append_getElem (by rw [List.length_set]; omega), List.getElem_set_self, List.take_set_of_le (Nat.le_refl _)]
    have e2 : (l.set i y).drop (i + 1 + cs.length) = l.drop (i + (cs.length + 1)) := by
      rw [List.drop_set_of_lt (by omega), show i + 1 + cs.length = i + (cs.length + 1) by omega]
    rw [e1, e2, List.length_cons]
    simp
theorem keep_out (f : Nat → Bool) {i : Nat} : ∀ (w : List (Nat × BL)) (k : Nat) (l : List BL), (∀ x ∈ w, x.1 ≠ i) → (keepF f k l w)[i]? = l[i]?
  | [], k, l, _ => rfl
  | x :: w, k, l, h => by
    rw [keepF, keep_out f w (k + 1) _ fun y hy => h y (by simp [hy])]
    split
    · rw [List.getElem?_set_ne (h x (by simp))]
    · rfl
theorem keep_64 (f : Nat → Bool) : ∀ (w : List (Nat × BL)) (k : Nat) (l : List BL), (∀ x ∈ w, x.2.length = 64) → (∀ x ∈ l, x.length = 64) → ∀ x ∈ keepF f k l w, x.length = 64
  | [], k, l, _, h, x, hx => h x hx
  | y :: w, k, l, hw, h, x, hx => by
    rw [keepF] at hx
    refine keep_64 f w (k + 1) _ (fun z hz => hw z (by simp [hz])) (fun z hz => ?_) x hx
    split at hz
    · rcases List.mem_or_eq_of_mem_set hz with hz | rfl
      · exact h z hz
      · exact hw y (by simp)
    · exact h z hz
theorem nw_ge (x : Hd × Nat) (i : Nat) (y : Option Hd) : x.1.n ≤ (nw x i y).1.n ∧ ∀ g, y = some g → g.n ≤ (nw x i y).1.n := by
  cases y with
  | none => exact ⟨Nat.le_refl _, fun g e => by cases e⟩
  | some h =>
    by_cases e : h.n ≤ x.1.n
    · rw [nw_le e]; exact ⟨Nat.le_refl _, fun g eg => by cases eg; exact e⟩
    · rw [nw_gt e]; exact ⟨by dsimp only; omega, fun g eg => by cases eg; exact Nat.le_refl _⟩
theorem best_first {x1 : Option Hd} {g : Hd} (h0 : 0 < g.n) (h : ∀ y, x1 = some y → y.n ≤ g.n) : best (some g) x1 = (g, 0) := by
  unfold best
  rw [nw_gt (by dsimp only; omega)]
  cases x1 with
  | none => rfl
  | some y => exact nw_le (h y rfl)
theorem best_second {x0 : Option Hd} {g : Hd} (h : (nw (⟨0, 1, 0⟩, 1) 0 x0).1.n < g.n) : best x0 (some g) = (g, 1) := nw_gt (by omega)
/-- What is on the disk: v, if anything. -/
def Holds (s : DS) (N m : Nat) (v : Option BL) : Prop := ∃ x0 x1, Ok2 s N m x0 x1 ∧ v = if (best x0 x1).1.n = 0 then none else some (dataOf s.l (best x0 x1).1.a (best x0 x1).1.l)
theorem okH.mono {N m m' : Nat} {x : Option Hd} (h : okH N m x) (hm : m ≤ m') : okH N m' x := by
  cases x with
  | none => trivial
  | some g => exact ⟨h.1, Nat.le_trans h.2.1 hm, h.2.2⟩
theorem data_same {l l' : List BL} {N a len : Nat} (hl : l.length = N) (hl' : l'.length = N) (h : ∀ i, 2 + a * secN N ≤ i → i < 2 + a * secN N + secN N → l'[i]? = l[i]?) : dataOf l' a len = dataOf l a len := by
  unfold dataOf
  rw [hl, hl']
  congr 2
  apply List.ext_getElem?
  intro i
  rw [List.getElem?_take, List.getElem?_take]
  split
  · rw [List.getElem?_drop, List.getElem?_drop]
    exact h _ (by omega) (by omega)
  · rfl
section
variable {s s' : DS} {N m : Nat} {x0 x1 : Option Hd} {b : BL} {v : Option BL}
theorem wS_in (h : Ok2 s N m x0 x1) (hfit : b.length ≤ roomN N) : ∀ x ∈ wS N (best x0 x1) b, startS N (best x0 x1) ≤ x.1 ∧ x.1 < startS N (best x0 x1) + secN N ∧ x.2.length = 64 := by
  intro x hx
  obtain ⟨h1, h2, h3⟩ := numW_in _ _ _ hx
  have := chunks_len _ _ (roomN_sec hfit h.big.1)
  exact ⟨h1, by omega, chunks_64 _ b (Nat.le_refl _) _ h3⟩
theorem start_in (h : Ok2 s N m x0 x1) : 2 ≤ startS N (best x0 x1) ∧ startS N (best x0 x1) + secN N ≤ N := by
  have hN := h.big
  have hb := best_ok h.ok0 h.ok1
  have hS : 2 + 2 * secN N ≤ N := by unfold secN; omega
  have := Nat.mul_le_mul_right (secN N) (show 1 - (best x0 x1).1.a ≤ 1 by omega)
  unfold startS; omega
/-- What counts is not where the new goes to. -/
theorem apart (h : Ok2 s N m x0 x1) {i : Nat} (h1 : 2 + (best x0 x1).1.a * secN N ≤ i) (h2 : i < 2 + (best x0 x1).1.a * secN N + secN N) : ¬ (startS N (best x0 x1) ≤ i ∧ i < startS N (best x0 x1) + secN N) := by
  have hb := best_ok h.ok0 h.ok1
  unfold startS
  generalize (best x0 x1).1.a = a at *
  have : a = 0 ∨ a = 1 := by omega
  rcases this with rfl | rfl <;> simp at * <;> omega
/-- Nothing but the place for the new has changed: it holds what it held. -/
theorem Ok2.keeps (h : Ok2 s N m x0 x1) (hw : s'.w = []) (hl : s'.l.length = N) (h64 : ∀ x ∈ s'.l, x.length = 64) (hout : ∀ i, ¬ (startS N (best x0 x1) ≤ i ∧ i < startS N (best x0 x1) + secN N) → s'.l[i]? = s.l[i]?) : Ok2 s' N m x0 x1 ∧ dataOf s'.l (best x0 x1).1.a (best x0 x1).1.l = dataOf s.l (best x0 x1).1.a (best x0 x1).1.l := by
  have hst := start_in h
  refine ⟨⟨hw, hl, h64, ?_, ?_, h.ok0, h.ok1, h.big, h.few⟩, data_same h.len hl fun i h1 h2 => hout i (apart h h1 h2)⟩
  · rw [hout 0 (by omega)]; exact h.h0
  · rw [hout 1 (by omega)]; exact h.h1
theorem Ok2.up {m' : Nat} (h : Ok2 s N m x0 x1) (hm : m ≤ m') (hf : m' < 18446744073709551616) : Ok2 s N m' x0 x1 := ⟨h.w0, h.len, h.c64, h.h0, h.h1, h.ok0.mono hm, h.ok1.mono hm, h.big, hf⟩
theorem hb64 {g : Hd} (h : okH N m (some g)) : (hb (some g)).length = 64 := by
  obtain ⟨_, _, h2, h3⟩ := h
  have := roomN_le N
  have := headB_len (n := g.n) (a := g.a) (l := g.l) (by omega) (by omega)
  exact pad64 (by omega)
/-- The save is done. -/
theorem Ok2.done (h : Ok2 s N m x0 x1) (hm : m + 1 < 18446744073709551616) (hfit : b.length ≤ roomN N) (hw : s'.w = []) (hl : s'.l = (l2S s N (best x0 x1) b).set (1 - (best x0 x1).2) (hb (some (newH (best x0 x1) b)))) : Holds s' N (m + 1) (some b) := by
  have hbest := best_ok h.ok0 h.ok1
  have hst := start_in h
  have hin := wS_in h hfit
  have hcl := chunks_len _ _ (roomN_sec hfit h.big.1)
  have l2len : (l2S s N (best x0 x1) b).length = N := by unfold l2S; rw [keepF_len, h.len]
  have hlen : s'.l.length = N := by rw [hl, List.length_set, l2len]
  have okN : okH N (m + 1) (some (newH (best x0 x1) b)) := ⟨by unfold newH; dsimp only; omega, by unfold newH; dsimp only; omega, by unfold newH; dsimp only; omega, hfit⟩
  have h64 : ∀ x ∈ s'.l, x.length = 64 := by
    intro x hx
    rw [hl] at hx
    rcases List.mem_or_eq_of_mem_set hx with hx | rfl
    · exact keep_64 _ _ _ _ (fun y hy => (hin y hy).2.2) h.c64 x hx
    · exact hb64 okN
  have hdata : dataOf s'.l (1 - (best x0 x1).1.a) b.length = b := by
    rw [data_same l2len hlen (fun i h1 _ => by rw [hl, List.getElem?_set_ne (by omega)])]
    unfold dataOf
    rw [l2len]
    unfold l2S wS
    rw [keep_all _ _ _ _ (by rw [h.len]; omega)]
    show List.take b.length (List.take (secN N) (List.drop (startS N (best x0 x1)) _)).flatten = b
    rw [List.drop_append_of_le_length (by rw [List.length_take, h.len]; omega), List.drop_of_length_le (by rw [List.length_take]; omega), List.nil_append]
    rw [List.take_append, List.take_of_length_le hcl, List.flatten_append]
    obtain ⟨z, hz⟩ := chunks_back _ b (Nat.le_refl _)
    rw [hz, List.append_assoc, List.take_left]
  have g0 := nw_ge (⟨0, 1, 0⟩, 1) 0 x0
  have g1 := nw_ge (nw (⟨0, 1, 0⟩, 1) 0 x0) 1 x1
  have hat : (best x0 x1).2 = 0 ∨ (best x0 x1).2 = 1 := by omega
  rcases hat with hat | hat
  · rw [hat] at hl
    refine ⟨x0, some (newH (best x0 x1) b), ⟨hw, hlen, h64, ?_, ?_, h.ok0.mono (by omega), okN, h.big, hm⟩, ?_⟩
    · rw [hl, List.getElem?_set_ne (by omega)]
      unfold l2S
      rw [keep_out _ _ _ _ fun y hy => by have := hin y hy; omega]
      exact h.h0
    · rw [hl, List.getElem?_set_self (by have := h.big; omega)]
    · rw [best_second (show _ < (newH (best x0 x1) b).n from Nat.lt_succ_of_le g1.1), if_neg (by unfold newH; dsimp only; omega)]
      exact congrArg some hdata.symm
  · rw [hat] at hl
    refine ⟨some (newH (best x0 x1) b), x1, ⟨hw, hlen, h64, ?_, ?_, okN, h.ok1.mono (by omega), h.big, hm⟩, ?_⟩
    · rw [hl, List.getElem?_set_self (by have := h.big; omega)]
    · rw [hl, List.getElem?_set_ne (by omega)]
      unfold l2S
      rw [keep_out _ _ _ _ fun y hy => by have := hin y hy; omega]
      exact h.h1
    · rw [best_first (show 0 < (newH (best x0 x1) b).n from Nat.succ_pos _) fun y hy => Nat.le_succ_of_le (g1.2 y hy), if_neg (by unfold newH; dsimp only; omega)]
      exact congrArg some hdata.symm
/-- Behind a save, and a loss of power, if it was torn. -/
theorem Ok2.torn {bits : Nat} (h : Ok2 s N m x0 x1) (hm : m + 1 < 18446744073709551616) (hfit : b.length ≤ roomN N) (hP : SaveP s s' N (best x0 x1) b 23) :
    Holds (s'.crash bits) N (m + 1) (some b) ∨ Holds (s'.crash bits) N (m + 1) (if (best x0 x1).1.n = 0 then none else some (dataOf s.l (best x0 x1).1.a (best x0 x1).1.l)) := by
  have hin := wS_in h hfit
  have l2len : (l2S s N (best x0 x1) b).length = N := by unfold l2S; rw [keepF_len, h.len]
  have old : ∀ t : DS, t.w = [] → t.l.length = N → (∀ x ∈ t.l, x.length = 64) → (∀ i, ¬ (startS N (best x0 x1) ≤ i ∧ i < startS N (best x0 x1) + secN N) → t.l[i]? = s.l[i]?) → Holds t N (m + 1) (if (best x0 x1).1.n = 0 then none else some (dataOf s.l (best x0 x1).1.a (best x0 x1).1.l)) := by
    intro t t1 t2 t3 t4
    obtain ⟨k1, k2⟩ := h.keeps t1 t2 t3 t4
    exact ⟨x0, x1, k1.up (by omega) hm, by rw [k2]⟩
  have l2out : ∀ i, ¬ (startS N (best x0 x1) ≤ i ∧ i < startS N (best x0 x1) + secN N) → (l2S s N (best x0 x1) b)[i]? = s.l[i]? := fun i hi => keep_out _ _ _ _ fun y hy e => by have := hin y hy; omega
  have l264 : ∀ x ∈ l2S s N (best x0 x1) b, x.length = 64 := fun x hx => keep_64 _ _ _ _ (fun y hy => (hin y hy).2.2) h.c64 x hx
  rcases hP.out with ⟨he, _⟩ | ⟨_, _, ⟨e1, r, e2⟩ | ⟨e1, e2 | e2⟩⟩
  · cases he
  · right
    have hin' : ∀ y ∈ s'.w, startS N (best x0 x1) ≤ y.1 ∧ y.1 < startS N (best x0 x1) + secN N ∧ y.2.length = 64 := fun y hy => hin y (by rw [← e2]; simp [hy])
    refine old _ rfl (by rw [DS.crash_len, e1, h.len]) (fun x hx => ?_) (fun i hi => ?_)
    · refine keep_64 _ _ _ _ (fun y hy => (hin' y hy).2.2) (by rw [e1]; exact h.c64) x hx
    · show (keepF _ 0 s'.l s'.w)[i]? = _
      rw [keep_out _ _ _ _ fun y hy e => by have := hin' y hy; omega, e1]
  · right
    have ec : (s'.crash bits).l = l2S s N (best x0 x1) b := by show keepF _ 0 s'.l s'.w = _; rw [e2, e1]; rfl
    exact old _ rfl (by rw [ec, l2len]) (by rw [ec]; exact l264) (by rw [ec]; exact l2out)
  · by_cases hk : kept bits 0 = true
    · left
      refine h.done hm hfit rfl ?_
      show keepF _ 0 s'.l s'.w = _
      rw [e2, e1, keepF, if_pos hk]; rfl
    · right
      have ec : (s'.crash bits).l = l2S s N (best x0 x1) b := by show keepF _ 0 s'.l s'.w = _; rw [e2, e1, keepF, if_neg hk]; rfl
      exact old _ rfl (by rw [ec, l2len]) (by rw [ec]; exact l264) (by rw [ec]; exact l2out)
theorem Holds.new {n : Nat} (h : 21 ≤ n ∧ n ≤ 1000) : Holds (DS.new (n : Nat)) n 0 none := by
  have e : (DS.new (n : Nat)).l = List.replicate n zero64 := by
    unfold DS.new
    rw [show (min (max ((n : Nat) : Int) 0) 1000).toNat = n by omega]
  refine ⟨none, none, ⟨rfl, by rw [e, List.length_replicate], fun x hx => ?_, ?_, ?_, trivial, trivial, h, by decide⟩, rfl⟩
  · rw [e] at hx; rw [(List.mem_replicate.1 hx).2]; rfl
  · rw [e, List.getElem?_replicate, if_pos (by omega)]; rfl
  · rw [e, List.getElem?_replicate, if_pos (by omega)]; rfl
theorem Holds.as (h : Holds s N m v) (hl : s'.l = s.l) (hw : s'.w = []) : Holds s' N m v := by
  obtain ⟨x0, x1, h, e⟩ := h
  exact ⟨x0, x1, ⟨hw, by rw [hl]; exact h.len, by rw [hl]; exact h.c64, by rw [hl]; exact h.h0, by rw [hl]; exact h.h1, h.ok0, h.ok1, h.big, h.few⟩, by rw [hl]; exact e⟩
theorem Holds.w (h : Holds s N m v) : s.w = [] := by obtain ⟨_, _, h, _⟩ := h; exact h.w0
theorem Holds.len (h : Holds s N m v) : s.l.length = N := by obtain ⟨_, _, h, _⟩ := h; exact h.len
theorem Holds.big (h : Holds s N m v) : 21 ≤ N ∧ N ≤ 1000 := by obtain ⟨_, _, h, _⟩ := h; exact h.big
/-- A loss of power behind all that was kept. -/
theorem Holds.crash (h : Holds s N m v) (bits : Nat) : Holds (s.crash bits) N m v := h.as (by show keepF _ 0 s.l s.w = s.l; rw [h.w]; rfl) rfl
end
section
variable {A H : Hp} {d : Nat} {O : List Nat} {s : DS} {N m : Nat} {v : Option BL} {b : BL}
/-- What a save leaves. -/
structure Left (s s' : DS) (N m : Nat) (v : Option BL) (b : BL) (e : Int) : Prop where
  n : s'.n ≤ s.n + b.length + 10
  left : s.left = none → s'.left = none
  done : e = 0 → Holds s' N (m + 1) (some b)
  torn : e ≠ 0 → e = 23 ∧ s'.left = some 0 ∧ s'.l.length = N ∧ ∀ bits, Holds (s'.crash bits) N (m + 1) (some b) ∨ Holds (s'.crash bits) N (m + 1) v
theorem slots_Save.h {K : Int → Hp → Prop} (hu : Dk H d O s) (hA : Le A H) (hO : ∀ x ∈ O, A x = none) (h : Holds s N m v) (hn : s.n ≤ 900000000) (hm : m + 1 < 18446744073709551616) (hfit : b.length ≤ roomN N)
    (hK : ∀ e H' O' s', Stt A H H' d O O' s' → Left s s' N m v b e → K e H') : slots_Save.C (some ⟨d, 0, none⟩) (mkB b) H K := by
  obtain ⟨x0, x1, ho, hv⟩ := h
  refine slots_Save.c hu hA hO ho hn hm hfit fun e H' O' s' t hP => hK e H' O' s' t ⟨hP.n, hP.left, fun he => ?_, fun he => ?_⟩
  · rcases hP.out with ⟨_, h1, h2⟩ | ⟨h1, _⟩
    · exact ho.done hm hfit h2 h1
    · rw [h1] at he; cases he
  · rcases hP.out with ⟨h1, _⟩ | ⟨h1, h2, h3⟩
    · exact absurd h1 he
    · subst h1
      refine ⟨rfl, h2, ?_, fun bits => hv ▸ ho.torn hm hfit hP⟩
      rcases h3 with ⟨h3, _⟩ | ⟨h3, _⟩
      · rw [h3, ho.len]
      · rw [h3]; unfold l2S; rw [keepF_len, ho.len]
theorem slots_Load.h {K : ByteArray → Int → Hp → Prop} (hu : Dk H d O s) (h : Holds s N m v) (on : s.on) (h0 : v = none → ∀ H', Le H H' → K (mkB []) 25 H') (hK : ∀ b, v = some b → ∀ H', Le H H' → K (mkB b) 0 H') : slots_Load.C (some ⟨d, 0, none⟩) H K := by
  obtain ⟨x0, x1, ho, hv⟩ := h
  refine slots_Load.c hu ho on (fun hz => h0 (by rw [hv, if_pos hz])) (fun hz => hK _ (by rw [hv, if_neg hz]))
end
end Go.Proofs.Ytjfohhgmapipnaa
