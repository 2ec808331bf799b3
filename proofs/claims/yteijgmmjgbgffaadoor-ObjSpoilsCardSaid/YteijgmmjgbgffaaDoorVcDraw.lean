/- A region that draws its order: what looks goes first, in whatever order; one operation that writes, and what follows it, in the order of the text. -/
import Derived.Test.YteijgmmjgbgffaaDoorVcEff2
import Derived.StillTail
namespace Go.V
set_option linter.unusedSectionVars false
variable [Sp]

def qLen (ops : Array Oper) : Nat := (ops.toList.takeWhile fun o => quietOp o.op).length

def drawB (ops : Array Oper) : Bool :=
  Region.lexB .any ops && (Nat.beq (qLen ops) ops.size || (Region.sinkB .any ops (qLen ops) && Region.chainB .any ops (qLen ops)))

def Fn (ro : Option Nat) : Fence := { Fence.wide with round := ro }

section
variable {P : Program} {ops : Array Oper} {w : World} {ro : Option Nat} {nn : Nat} {Q : Exit → Act → World → Prop}

def YAt (P : Program) (ops : Array Oper) (w : World) (o : Oper) (v : Value) (a : Act) : Prop :=
  (Region.wanted o (yielded ops a.tmps) = true ∧ (∀ c, o.op ≠ .defer c) ∧ (execOp a.eval o).run P w = .ok (.value v) w) ∨ (Region.wanted o (yielded ops a.tmps) = false ∧ v = undef)

def stF (P : Program) (ops : Array Oper) (w : World) (i : Nat) (K : Act → Prop) (a : Act) : Prop :=
  match ops[i]? with
  | none => K a
  | some o => ∃ v, YAt P ops w o v a ∧ K (a.put o.dst v)

theorem stF_mono {i : Nat} {a : Act} {K K' : Act → Prop} (h : ∀ a, K a → K' a) (hh : stF P ops w i K a) : stF P ops w i K' a := by
  unfold stF at *
  split
  · rename_i ho; rw [ho] at hh; exact h _ hh
  · rename_i o ho; rw [ho] at hh; obtain ⟨v, h1, h2⟩ := hh; exact ⟨v, h1, h _ h2⟩

theorem YAt.put {o o' : Oper} {v u : Value} {a : Act} (hs : ∀ cs b, o.op ≠ .select cs b) (h : ∀ d, o'.dst = some d → d ∉ o.looksAt ops) : YAt P ops w o v (a.put o'.dst u) ↔ YAt P ops w o v a := by
  unfold YAt
  rw [execOp_put o hs a o'.dst u h, wanted_put o a o'.dst u h]

theorem stF_put {j : Nat} {oi oj : Oper} {v : Value} (hj : ops[j]? = some oj) (hap : oi.apart ops oj = true)
    (hsi : ∀ cs b, oi.op ≠ .select cs b) (hsj : ∀ cs b, oj.op ≠ .select cs b) {K : Act → Prop} {a : Act}
    (hy : YAt P ops w oi v a) (h : stF P ops w j K (a.put oi.dst v)) :
    stF P ops w j (fun a' => YAt P ops w oi v a' ∧ K (a'.put oi.dst v)) a := by
  obtain ⟨h1, h2, h3⟩ := Oper.apart_spec hap
  unfold stF at *
  rw [hj] at *
  obtain ⟨u, hu, hk⟩ := h
  exact ⟨u, (YAt.put hsj h1).1 hu, (YAt.put hsi h3).2 hy, by rw [← Act.put_comm a v u h2]; exact hk⟩

def anyF (P : Program) (ops : Array Oper) (w : World) (m : Nat) (L : Array Bool → Act → Prop) : Nat → Array Bool → Act → Prop
  | 0, listed, a => L listed a
  | f + 1, listed, a =>
    Region.ready .any ops listed ≠ [] ∧ ∀ i ∈ Region.ready .any ops listed, i < m ∧ stF P ops w i (anyF P ops w m L f (listed.setIfInBounds i true)) a

theorem YAt.stF {i : Nat} {o : Oper} {v : Value} {a : Act} (hi : ops[i]? = some o) (hy : YAt P ops w o v a) {K : Act → Prop} (h : K (a.put o.dst v)) : stF P ops w i K a := by
  unfold V.stF
  rw [hi]
  exact ⟨v, hy, h⟩

/-- What comes up while something below m is not listed lies below m. -/
def Below' (ops : Array Oper) (m : Nat) : Prop :=
  ∀ listed : Array Bool, HeadInv .any ops m listed → ∀ i, i < m → listed.getD i true = false → ∀ j ∈ Region.ready .any ops listed, j < m

theorem below_of (m : Nat) (h : m = ops.size ∨ (m < ops.size ∧ Region.sinkB .any ops m = true ∧ Region.chainB .any ops m = true)) : Below' ops m := by
  intro listed inv i hi hun j hj
  rcases h with h | ⟨h1, h2, h3⟩
  · obtain ⟨_, o, ho, _⟩ := mem_ready.1 hj
    have := (Array.getElem?_eq_some_iff.1 ho).1
    omega
  · rcases Nat.lt_or_ge j m with h | h
    · exact h
    · exact absurd hj (tail_waits h2 h3 h1 inv _ i rfl hi hun j h)

theorem anyF_first {m i : Nat} {oi : Oper} {v : Value} {L : Array Bool → Act → Prop} (hi : ops[i]? = some oi) (hsel : ∀ (j : Nat) (o : Oper) cs b, ops[j]? = some o → o.op ≠ .select cs b)
    (hB : Below' ops m) (hin : i < m) (hdone : ∀ listed a, L listed a → ∀ j ∈ Region.ready .any ops listed, m ≤ j) :
    ∀ (f : Nat) (listed : Array Bool) (a : Act), HeadInv .any ops m listed →
      (∀ j oj, ops[j]? = some oj → j ≠ i → listed.getD j true = false → (∀ e ∈ oj.after, Region.binds .any e = true → e.on ≠ i) → oi.apart ops oj = true) →
      i ∈ Region.ready .any ops listed → YAt P ops w oi v a →
      anyF P ops w m L f (listed.setIfInBounds i true) (a.put oi.dst v) → anyF P ops w m L (f + 1) listed a := by
  intro f
  induction f with
  | zero =>
    intro listed a inv _ hr hy H
    have hun := (mem_ready.1 hr).1
    refine ⟨fun h => (by rw [h] at hr; cases hr), fun j hj => ?_⟩
    have hjm := hB listed inv i hin hun j hj
    refine ⟨hjm, ?_⟩
    by_cases hji : j = i
    · subst hji; exact hy.stF hi H
    · have := hdone _ _ H j (ready_mono hj hji)
      omega
  | succ f ih =>
    intro listed a inv hfree hr hy H
    have hun := (mem_ready.1 hr).1
    refine ⟨fun h => (by rw [h] at hr; cases hr), fun j hj => ?_⟩
    have hjm := hB listed inv i hin hun j hj
    refine ⟨hjm, ?_⟩
    by_cases hji : j = i
    · subst hji; exact hy.stF hi H
    · have h1 := (H.2 j (ready_mono hj hji)).2
      obtain ⟨hjun, oj, hoj, hall⟩ := mem_ready.1 hj
      have hnot : ∀ e ∈ oj.after, Region.binds .any e = true → e.on ≠ i := fun e he hb heq => by
        have h1 := hall e he hb
        rw [heq, getD_both hun] at h1
        cases h1
      have h2 := stF_put hoj (hfree j oj hoj hji hjun hnot) (fun cs b => hsel i oi cs b hi) (fun cs b => hsel j oj cs b hoj) hy h1
      have hfree' : ∀ k ok, ops[k]? = some ok → k ≠ i → (listed.setIfInBounds j true).getD k true = false →
          (∀ e ∈ ok.after, Region.binds .any e = true → e.on ≠ i) → oi.apart ops ok = true := fun k ok hk hki hun' hno => by
        refine hfree k ok hk hki ?_ hno
        by_cases hjk : j = k
        · subst hjk; exact hjun
        · rw [getD_set_ne true hjk] at hun'; exact hun'
      refine stF_mono (fun a' h3 => ih (listed.setIfInBounds j true) a' (inv.set hj hjm) hfree' (ready_mono hr (Ne.symm hji)) h3.1 ?_) h2
      rw [Array.setIfInBounds_comm _ _ hji]
      exact h3.2

/-- The walk in the order of the text, of operations k .. k + f - 1. -/
def lexW (P : Program) (ops : Array Oper) (w : World) (E : Act → Prop) : Nat → Nat → Act → Prop
  | 0, _, a => E a
  | f + 1, k, a => stF P ops w k (lexW P ops w E f (k + 1)) a

def firstN (m N : Nat) : Array Bool := Array.ofFn fun i : Fin N => decide (i.val < m)

theorem firstN_set (m N : Nat) (h : m < N) : (firstN m N).setIfInBounds m true = firstN (m + 1) N := by
  apply Array.ext_getElem?
  intro i
  by_cases hi : i < N
  · by_cases e : m = i
    · subst e; simp [firstN, h]
    · rw [Array.getElem?_setIfInBounds_ne e]
      simp only [firstN, Array.getElem?_ofFn, hi, dite_true]
      congr 2
      rw [eq_iff_iff]
      omega
  · rw [Array.getElem?_eq_none (by simp [firstN]; omega), Array.getElem?_eq_none (by simp [firstN]; omega)]

theorem firstN_getD (m N i : Nat) (hi : i < N) (d : Bool) : (firstN m N).getD i d = decide (i < m) := by
  simp [firstN, hi]

theorem firstN_zero (N : Nat) : firstN 0 N = Array.replicate N false := by
  apply Array.ext
  · simp [firstN]
  · intro i h1 h2; simp [firstN]

theorem anyF_lex {m : Nat} {E : Act → Prop} (hs : Region.noSelect ops = true) (hB : Below' ops m) (hm : m ≤ ops.size) {L : Array Bool → Act → Prop}
    (hL : ∀ a, E a → L (firstN m ops.size) a) (hdone : ∀ listed a, L listed a → ∀ j ∈ Region.ready .any ops listed, m ≤ j) :
    ∀ (f k g : Nat) (a : Act), k + f = m → Region.lexFrom .any ops (f + g) k (firstN k ops.size) = true → HeadInv .any ops m (firstN k ops.size) → lexW P ops w E f k a →
      anyF P ops w m L f (firstN k ops.size) a
  | 0, k, g, a, hk, _, _, h => by
    simp only [Nat.add_zero] at hk
    subst hk
    exact hL a h
  | f + 1, k, g, a, hk, hlex, inv, h => by
    have hko : k < ops.size := by omega
    obtain ⟨o, ho⟩ : ∃ o, ops[k]? = some o := ⟨ops[k], by simp [hko]⟩
    rw [show f + 1 + g = (f + g) + 1 by omega] at hlex
    simp only [Region.lexFrom, Bool.and_eq_true] at hlex
    obtain ⟨⟨hr, hf⟩, hlex'⟩ := hlex
    rw [firstN_set k ops.size hko] at hlex'
    simp only [lexW, stF, ho] at h
    obtain ⟨v, hy, hK⟩ := h
    have hr' : k ∈ Region.ready .any ops (firstN k ops.size) := by simpa using hr
    refine anyF_first ho (Region.noSelect_spec hs) hB (by omega) hdone f _ a inv (Region.free_spec ho hf) hr' hy ?_
    rw [firstN_set k ops.size hko]
    have inv' := inv.set hr' (by omega : k < m)
    rw [firstN_set k ops.size hko] at inv'
    exact anyF_lex hs hB hm hL hdone f (k + 1) g _ (by omega) hlex' inv' hK

theorem wpOpIn_of_stF {i : Nat} {a : Act} {K : Act → Prop} {K' : Act → World → Prop} (h : ∀ a, K a → K' a w) (hh : stF P ops w i K a) : wpOpIn (Fn ro) nn P ops Q i K' a w := by
  unfold stF at hh
  unfold wpOpIn
  split
  · rename_i ho; rw [ho] at hh; exact h _ hh
  · rename_i o ho
    rw [ho] at hh
    obtain ⟨v, hy, hk⟩ := hh
    rcases hy with ⟨h1, h2, h3⟩ | ⟨h1, rfl⟩
    · rw [if_pos h1]
      refine ⟨fun _ _ => trivial, ?_⟩
      rw [Oper.semAt_eq _ _ _ h2, h3]
      exact h _ hk
    · rw [if_neg (by rw [h1]; simp)]
      exact ⟨fun _ _ => trivial, h _ hk⟩

theorem wpAnyIn_of_head {m g : Nat} {L : Array Bool → Act → Prop} (hL : ∀ listed a, L listed a → wpAnyIn (Fn ro) nn P .any ops Q g listed a w) :
    ∀ (f : Nat) (listed : Array Bool) (a : Act), anyF P ops w m L f listed a → wpAnyIn (Fn ro) nn P .any ops Q (f + g) listed a w
  | 0, listed, a, h => by rw [Nat.zero_add]; exact hL _ _ h
  | f + 1, listed, a, h => by
    rw [show f + 1 + g = (f + g) + 1 by omega]
    exact ⟨fun h0 => absurd h0 h.1, fun i hi => wpOpIn_of_stF (fun a' h' => wpAnyIn_of_head hL f _ a' h') (h.2 i hi).2⟩

theorem mem_ready_firstN {k j : Nat} (h : j ∈ Region.ready .any ops (firstN k ops.size)) : k ≤ j ∧ j < ops.size := by
  obtain ⟨h1, o, ho, _⟩ := mem_ready.1 h
  have hj := (Array.getElem?_eq_some_iff.1 ho).1
  rw [firstN_getD k _ j hj] at h1
  simp at h1
  exact ⟨h1, hj⟩

/-- The tail: each waits for the one ahead of it. -/
theorem wpAnyIn_tail {m : Nat} (hc : m = ops.size ∨ Region.chainB .any ops m = true) : ∀ (f k : Nat) (a : Act) (w : World), m ≤ k → k + f = ops.size → Region.lexFrom .any ops f k (firstN k ops.size) = true →
    wpOpsIn (Fn ro) nn P ops Q (List.range' k f) a w → wpAnyIn (Fn ro) nn P .any ops Q f (firstN k ops.size) a w
  | 0, k, a, w, hk, hf, hlex, h => by
    refine ⟨?_, by simpa [wpOpsIn] using h⟩
    simpa [Region.lexFrom] using hlex
  | f + 1, k, a, w, hk, hf, hlex, h => by
    have hko : k < ops.size := by omega
    simp only [Region.lexFrom, Bool.and_eq_true] at hlex
    obtain ⟨⟨hr, _⟩, hlex'⟩ := hlex
    rw [firstN_set k ops.size hko] at hlex'
    have hr' : k ∈ Region.ready .any ops (firstN k ops.size) := by simpa using hr
    have honly : ∀ j ∈ Region.ready .any ops (firstN k ops.size), j = k := by
      intro j hj
      obtain ⟨h1, h2⟩ := mem_ready_firstN hj
      rcases Nat.eq_or_lt_of_le h1 with e | hlt
      · exact e.symm
      · exfalso
        rcases hc with hc | hc
        · omega
        · have h3 := List.all_eq_true.1 hc j (List.mem_range.2 h2)
          simp only [Bool.or_eq_true, decide_eq_true_eq] at h3
          rcases h3 with h3 | h3
          · omega
          · obtain ⟨o', ho', e, he, hb, hon⟩ := Region.waitsFor_spec h3
            obtain ⟨_, o, ho, hall⟩ := mem_ready.1 hj
            rw [ho] at ho'
            cases ho'
            have h4 := hall e he hb
            rw [hon, firstN_getD k _ (j - 1) (by omega)] at h4
            simp at h4
            omega
    refine ⟨fun h0 => (by rw [h0] at hr'; cases hr'), fun i hi => ?_⟩
    rw [honly i hi, firstN_set k ops.size hko]
    rw [List.range'_succ, wpOpsIn_cons] at h
    exact wpOpIn_mono (fun a' w' h' => wpAnyIn_tail hc f (k + 1) a' w' (by omega) (by omega) hlex' h') h

/-- **A region that draws: walked in the order of the text.** -/
theorem wp_draw {id : Nat} {a : Act} {E : Act → Prop} (hmix : P.follows .mixedOrders = true) (hd : drawB ops = true)
    (hlex : lexW P ops w.drew E (qLen ops) 0 a) (hE : ∀ a, E a → wpOpsIn (Fn ro) nn P ops Q (List.range' (qLen ops) (ops.size - qLen ops)) a w.drew) :
    (Code.region id ops true).wpIn (Fn ro) nn P Q a w := by
  refine wpIn_region_any hmix ?_
  simp only [drawB, Bool.and_eq_true, Bool.or_eq_true, Region.lexB] at hd
  obtain ⟨⟨hs, hl⟩, hq⟩ := hd
  have hm : qLen ops ≤ ops.size := by
    have := (List.takeWhile_prefix (fun o : Oper => quietOp o.op) (l := ops.toList)).length_le
    simpa [qLen] using this
  have hq' : qLen ops = ops.size ∨ (Region.sinkB .any ops (qLen ops) = true ∧ Region.chainB .any ops (qLen ops) = true) := by
    rcases hq with hq | hq
    · exact .inl (Nat.eq_of_beq_eq_true hq)
    · exact .inr hq
  have hc : qLen ops = ops.size ∨ Region.chainB .any ops (qLen ops) = true := hq'.imp (fun x => x) And.right
  have hB : Below' ops (qLen ops) := by
    apply below_of
    rcases hq' with h | h
    · exact .inl h
    · rcases Nat.eq_or_lt_of_le hm with e | hlt
      · exact .inl e
      · exact .inr ⟨hlt, h.1, h.2⟩
  rw [← firstN_zero] at hl ⊢
  -- the state behind the head
  have hlexm : ∀ (f k g : Nat), k + f + g = ops.size → Region.lexFrom .any ops (f + g) k (firstN k ops.size) = true → Region.lexFrom .any ops g (k + f) (firstN (k + f) ops.size) = true := by
    intro f
    induction f with
    | zero => intro k g _ h; simpa using h
    | succ f ih =>
      intro k g hk h
      rw [show f + 1 + g = (f + g) + 1 by omega] at h
      simp only [Region.lexFrom, Bool.and_eq_true] at h
      have h' := h.2
      rw [firstN_set k ops.size (by omega)] at h'
      have := ih (k + 1) g (by omega) h'
      rwa [show k + 1 + f = k + (f + 1) by omega] at this
  have hinv : HeadInv .any ops (qLen ops) (firstN 0 ops.size) := by
    refine ⟨by simp [firstN], fun j oj hj hl => ?_, fun t ht ht' => ?_⟩
    · rw [firstN_zero, getD_replicate_false] at hl; cases hl
    · rw [firstN_getD 0 _ t ht']; simp
  have hN : ops.size = qLen ops + (ops.size - qLen ops) := by omega
  have key := anyF_lex (P := P) (w := w.drew) (m := qLen ops) (E := E) hs hB hm (L := fun listed a => listed = firstN (qLen ops) ops.size ∧ E a) (fun a h => ⟨rfl, h⟩)
    (fun listed a h j hj => by rw [h.1] at hj; exact (mem_ready_firstN hj).1) (qLen ops) 0 (ops.size - qLen ops) a (by omega) (by rw [← hN]; exact hl) hinv hlex
  have := wpAnyIn_of_head (ro := ro) (nn := nn) (Q := Q) (g := ops.size - qLen ops) (fun listed a h => by
    rw [h.1]
    exact wpAnyIn_tail hc _ _ a _ (Nat.le_refl _) (by omega) (by have := hlexm (qLen ops) 0 (ops.size - qLen ops) (by omega) (by rw [← hN]; exact hl); simpa using this) (hE a h.2)) (qLen ops) _ a key
  rw [← hN] at this
  exact this

end
end Go.V
