/- What changes and what stays: laws for functions that write. -/
import Derived.Test.YteijgmmjgbgffaaDoorVcLaws
namespace Go.V

/-- All that stands outside of O stays. -/
def Mod (O : List Nat) (H H' : Hp) : Prop := ∀ b, b ∉ O → ∀ c, H b = some c → H' b = some c
section
variable {O O' : List Nat} {A H H' B C : Hp} {b o : Nat} {v : Value}
theorem Mod.refl : Mod O H H := fun _ _ _ e => e
theorem Le.mod (h : Le H H') : Mod O H H' := fun b _ c e => h b c e
theorem Mod.trans (h : Mod O A B) (h' : Mod O B C) : Mod O A C := fun b hb c e => h' b hb c (h b hb c e)
theorem Mod.mono (h : Mod O H H') (hs : ∀ b ∈ O, b ∈ O') : Mod O' H H' := fun b hb c e => h b (fun hb' => hb (hs b hb')) c e
theorem Mod.nil (h : Mod [] H H') : Le H H' := fun b c e => h b (by simp) c e
theorem Mod.get (h : Mod O H H') (hb : b ∉ O) {c : List Value} (e : H b = some c) : H' b = some c := h b hb c e
theorem Mod.rd (h : Mod O H H') (hb : b ∉ O) (e : rd H b o = some v) : rd H' b o = some v := by
  unfold Go.V.rd at *
  cases hH : H b with
  | none => rw [hH] at e; cases e
  | some c => rw [h b hb c hH]; rw [hH] at e; exact e
theorem Mod.wr (h : Mod O A H) (hb : b ∈ O ∨ A b = none) : Mod O A (wr H b o v) := fun b' hb' c e => by
  unfold Go.V.wr
  split
  · subst_vars
    rcases hb with hb | hb
    · exact absurd hb hb'
    · rw [hb] at e; cases e
  · exact h b' hb' c e
theorem Mod.upd (h : Mod O A H) (hb : A b = none ∨ H b = none ∨ b ∈ O) {c : List Value} : Mod O A (upd H b c) := fun b' hb' c' e => by
  unfold Go.V.upd
  split
  · subst_vars
    rcases hb with hb | hb | hb
    · rw [hb] at e; cases e
    · rw [h _ hb' _ e] at hb; cases hb
    · exact absurd hb hb'
  · exact h b' hb' c' e
theorem Mod.le (h : Mod O H H') (hle : Le A H) (hO : ∀ b ∈ O, A b = none) : Le A H' := fun b c e =>
  h b (fun hb => by rw [hO b hb] at e; cases e) c (hle b c e)
/-- What was there neither changed nor was it meant to: new memory alone. -/
theorem Mod.fresh (h : Mod O H H') (hO : ∀ b ∈ O, H b = none) : Le H H' := h.le (Le.refl _) hO
theorem Mod.after (h : Mod O H H') (hle : Le A H) : Mod O A H' := fun b hb c e => h b hb c (hle b c e)
theorem Mod.andLe (h : Mod O A H) (hle : Le H H') : Mod O A H' := fun b hb c e => hle b c (h b hb c e)
theorem none_of_le (h : Le A H) (e : H b = none) : A b = none := by
  cases hA : A b with
  | none => rfl
  | some c => rw [h b c hA] at e; cases e
theorem some_of_rd (e : rd H b o = some v) : ∃ c, H b = some c := by
  unfold rd at e
  cases hH : H b with
  | none => rw [hH] at e; cases e
  | some c => exact ⟨c, rfl⟩
theorem ne_none_of_rd (e : rd H b o = some v) : H b ≠ none := by
  obtain ⟨c, hc⟩ := some_of_rd e
  rw [hc]; intro h; cases h
end

/-- A new address (or none). -/
def New (H : Hp) (p : Option Addr) : Prop := ∀ b o, p = some ⟨b, o, none⟩ → H b = none
theorem New.none {H : Hp} : New H none := fun _ _ h => by cases h
theorem New.some {H : Hp} {b o : Nat} (h : H b = Option.none) : New H (Option.some ⟨b, o, Option.none⟩) := fun b' o' e => by simp only [Option.some.injEq, Addr.mk.injEq] at e; obtain ⟨rfl, _⟩ := e; exact h
theorem New.le {A H : Hp} {p : Option Addr} (h : New H p) (hle : Le A H) : New A p := fun b o e => none_of_le hle (h b o e)

section
variable {α : Type} {f : α → Value} {A H H' : Hp} {p : Option Addr} {l c : Nat} {xs : List α} {O : List Nat}
theorem Sl.mod (h : Sl f H p l c xs) (hm : Mod O H H') (hp : ∀ b o, p = some ⟨b, o, none⟩ → b ∉ O) : Sl f H' p l c xs :=
  ⟨h.1, h.2.1, h.2.2.imp id fun ⟨b, o, e, h⟩ => ⟨b, o, e, fun i hi => hm.rd (hp b o e) (h i hi)⟩⟩
theorem Sl.modF (h : Sl f H p l c xs) (hf : New A p) (hm : Mod O H H') (hO : ∀ b ∈ O, A b ≠ none) : Sl f H' p l c xs :=
  h.mod hm fun b o e hb => hO b hb (hf b o e)
end
section
variable {α : Type} {n : Nat} {f : α → List Value} {A H H' : Hp} {p : Option Addr} {l c : Nat} {xs : List α} {O : List Nat}
theorem Sn.mod (h : Sn n f H p l c xs) (hm : Mod O H H') (hp : ∀ b o, p = some ⟨b, o, none⟩ → b ∉ O) : Sn n f H' p l c xs :=
  ⟨h.1, h.2.1, h.2.2.imp id fun ⟨b, o, e, h⟩ => ⟨b, o, e, fun i hi j v ev => hm.rd (hp b o e) (h i hi j v ev)⟩⟩
theorem Sn.modF (h : Sn n f H p l c xs) (hf : New A p) (hm : Mod O H H') (hO : ∀ b ∈ O, A b ≠ none) : Sn n f H' p l c xs :=
  h.mod hm fun b o e hb => hO b hb (hf b o e)
end

theorem Buf.fr {s : Nat} {A H : Hp} {p : Option Addr} {l c : Nat} {cells : List Value} (h : Buf s A H p l c cells) : New A p := by
  intro b o e
  rcases h.2 with ⟨h0, _, _⟩ | ⟨b', r, h1, h2, _⟩
  · rw [h0] at e; cases e
  · rw [h1] at e; simp only [Option.some.injEq, Addr.mk.injEq] at e; obtain ⟨rfl, _⟩ := e; exact h2
theorem Buf.mod {s : Nat} {A H H' : Hp} {p : Option Addr} {l c : Nat} {cells : List Value} {O : List Nat} (h : Buf s A H p l c cells) (hm : Mod O H H') (hp : ∀ b o, p = some ⟨b, o, Option.none⟩ → b ∉ O) : Buf s A H' p l c cells :=
  ⟨h.1, h.2.imp id fun ⟨b, r, h1, h2, h3, h4⟩ => ⟨b, r, h1, h2, hm b (hp b 0 h1) _ h3, h4⟩⟩
theorem Buf.base {s : Nat} {A A' H : Hp} {p : Option Addr} {l c : Nat} {cells : List Value} (h : Buf s A H p l c cells) (hA : ∀ b, p = some ⟨b, 0, Option.none⟩ → A b = Option.none → A' b = Option.none) : Buf s A' H p l c cells :=
  ⟨h.1, h.2.imp id fun ⟨b, r, h1, h2, h3, h4⟩ => ⟨b, r, h1, hA b h1 h2, h3, h4⟩⟩

/-- All but one row's own memory. -/
def but (H : Hp) (p : Option Addr) : Hp := fun b => match p with
  | some a => if b = a.block then none else H b
  | none => H b
theorem but_le {H : Hp} {p : Option Addr} : Le (but H p) H := fun b c e => by
  unfold but at e
  split at e
  · split at e
    · cases e
    · exact e
  · exact e
theorem but_none {H : Hp} {p : Option Addr} {b : Nat} (h : but H p b = none) : (∃ a, p = some a ∧ a.block = b) ∨ H b = none := by
  unfold but at h
  split at h
  · split at h
    · subst_vars; exact .inl ⟨_, rfl, rfl⟩
    · exact .inr h
  · exact .inr h

/-- append(out, x): as app1; the row stays where it was or goes to new memory, and nothing else is touched. -/
theorem Buf.push {s : Nat} {A H : Hp} {p : Option Addr} {l c : Nat} {cells : List Value} (hB : Buf s A H p l c cells) {te : TE} {new : List Value} (hs : te.size = s) (hpos : 0 < s) (hz : te.zc.length = s) (hbp : 0 < te.bytes)
    (hnl : new.length = s) (hcell : new.all isCell = true) (hfit : (l + 1) * te.bytes ≤ 140737488355328)
    {F : Option Addr → Nat → Nat → Hp → Prop}
    (hF : ∀ p' c' H', Buf s A H' p' (l + 1) c' (cells ++ new) → (p' = p ∨ New H p') → (∀ b d, H b = some d → p ≠ some ⟨b, 0, Option.none⟩ → H' b = some d) → F p' (l + 1) c' H') (hA : Le A H) (hzc : te.zc.all isCell = true := by rfl) (htl : te.tl = [] := by rfl) :
    NEW H new fun b H1 => APP H1 te p l c (.slice (some ⟨b, 0, Option.none⟩) 1 1) F := by
  refine Buf.app1 (A := but H p) (hB.base fun b hb _ => by unfold but; rw [hb]; simp) but_le hs hpos hz hbp hnl hcell hfit (fun p' c' H' h1 h2 h3 => hF p' c' H' (h1.base fun b hb hn => ?_) ?_ ?_) hzc htl
  · rcases but_none hn with ⟨a, hp, ha⟩ | h
    · rcases hB.2 with ⟨h0, _, _⟩ | ⟨b', r, h1, h2, _⟩
      · rw [h0] at hp; cases hp
      · rw [h1] at hp; simp only [Option.some.injEq] at hp; subst hp; simp only at ha; subst ha; exact h2
    · exact none_of_le hA h
  · rcases h1.2 with ⟨h0, _, _⟩ | ⟨b', r, h4, h5, _⟩
    · right; rw [h0]; exact New.none
    · rcases but_none h5 with ⟨a, hp, ha⟩ | h
      · left
        rcases hB.2 with ⟨h0, _, _⟩ | ⟨b'', r, h6, _⟩
        · rw [h0] at hp; cases hp
        · rw [h6] at hp; simp only [Option.some.injEq] at hp; subst hp; simp only at ha; subst ha; rw [h4, h6]
      · right; rw [h4]; exact New.some h
  · intro b d hd hp
    rw [h3 b (by rw [hd]; intro h; cases h) hp]; exact hd

theorem bcF {A B : Prop} (h : B) : bc false A B := h
theorem bcT {A B : Prop} (h : A) : bc true A B := h
theorem alOn {A : Prop} {B : Nat → Al → Prop} (h : A) : alC .on A B := h
/-- None, or a plain address. -/
def PtOk (p : Option Addr) : Prop := p = none ∨ ∃ b o, p = some ⟨b, o, none⟩
theorem PtOk.none : PtOk none := .inl rfl
theorem PtOk.some {b o : Nat} : PtOk (Option.some ⟨b, o, Option.none⟩) := .inr ⟨b, o, rfl⟩
theorem Buf.pt {s : Nat} {A H : Hp} {p : Option Addr} {l c : Nat} {cells : List Value} (h : Buf s A H p l c cells) : PtOk p := by
  rcases h.2 with ⟨h0, _, _⟩ | ⟨b, r, h1, _⟩
  · exact .inl h0
  · exact .inr ⟨b, 0, h1⟩
section
variable {α : Type} {A H : Hp} {p : Option Addr} {l c : Nat} {xs : List α}
theorem sl_srcG {f : α → Value} (h : Sl f H p l c xs) (hp : PtOk p) (G : Nat → List Value → Prop) (hG : G l (xs.map f)) : srcCells H 1 (.slice p l c) G := by
  have hl := h.len
  by_cases hne : 0 < xs.length
  · obtain ⟨b, o, hp, hr⟩ := h.at hne
    subst hp
    refine ⟨xs.map f, ⟨by simp [hl], fun i v e => ?_⟩, hG⟩
    have hi : i < xs.length := by
      rcases Nat.lt_or_ge i xs.length with h | h
      · exact h
      · rw [List.getElem?_eq_none (by simpa using h)] at e; cases e
    rw [hr i hi]
    simpa [hi] using e
  · have h0 : xs = [] := List.length_eq_zero_iff.1 (by omega)
    subst h0
    rcases hp with rfl | ⟨b, o, rfl⟩
    · exact hG
    · exact ⟨[], ⟨by simp at hl; subst hl; rfl, fun i v e => by simp at e⟩, hG⟩
/-- An empty slice, wherever it points. -/
theorem src_nil {H : Hp} {s : Nat} {p : Option Addr} {c : Nat} (G : Nat → List Value → Prop) (hG : G 0 []) : srcCells H s (.slice p 0 c) G := by
  match p with
  | none => exact hG
  | some ⟨b, o, none⟩ => exact ⟨[], ⟨by simp, fun i v e => by simp at e⟩, hG⟩
  | some ⟨b, o, some _⟩ => exact ⟨rfl, hG⟩
theorem sl_src {f : α → Value} (h : Sl f H p l c xs) (G : Nat → List Value → Prop) (hG : G l (xs.map f)) : srcCells H 1 (.slice p l c) G := by
  have hl := h.len
  by_cases hne : 0 < xs.length
  · obtain ⟨b, o, hp, _⟩ := h.at hne
    exact sl_srcG h (.inr ⟨b, o, hp⟩) G hG
  · have h0 : xs = [] := List.length_eq_zero_iff.1 (by omega)
    subst h0
    simp at hl; subst hl
    exact src_nil G hG
theorem flatMap_len {n : Nat} {f : α → List Value} (hf : ∀ x, (f x).length = n) : ∀ xs : List α, (xs.flatMap f).length = xs.length * n
  | [] => by simp
  | x :: xs => by rw [List.flatMap_cons, List.length_append, flatMap_len hf xs, hf, List.length_cons, Nat.add_mul]; omega
theorem sn_srcG {n : Nat} {f : α → List Value} (hn : 0 < n) (hf : ∀ x, (f x).length = n) (h : Sn n f H p l c xs) (hp : PtOk p) (G : Nat → List Value → Prop) (hG : G l (xs.flatMap f)) : srcCells H n (.slice p l c) G := by
  have hl := h.len
  by_cases hne : 0 < xs.length
  · obtain ⟨b, o, hp, hr⟩ := h.at hne
    subst hp
    refine ⟨xs.flatMap f, ⟨by rw [flatMap_len hf, hl], fun i v e => ?_⟩, hG⟩
    have hi : i < xs.length * n := by
      rcases Nat.lt_or_ge i (xs.length * n) with h | h
      · exact h
      · rw [List.getElem?_eq_none (by rw [flatMap_len hf]; exact h)] at e; cases e
    have hq : i / n < xs.length := Nat.div_lt_of_lt_mul (by rw [Nat.mul_comm]; exact hi)
    have hm : i % n < n := Nat.mod_lt _ hn
    have hdm : i = i / n * n + i % n := by rw [Nat.mul_comm]; exact (Nat.div_add_mod i n).symm
    rw [hdm, flatMap_get hf xs _ hq _ hm] at e
    rw [hdm, ← Nat.add_assoc]
    exact hr _ hq _ _ e
  · have h0 : xs = [] := List.length_eq_zero_iff.1 (by omega)
    subst h0
    rcases hp with rfl | ⟨b, o, rfl⟩
    · exact hG
    · exact ⟨[], ⟨by simp at hl; subst hl; simp, fun i v e => by simp at e⟩, hG⟩

theorem sn_src {n : Nat} {f : α → List Value} (hn : 0 < n) (hf : ∀ x, (f x).length = n) (h : Sn n f H p l c xs) (G : Nat → List Value → Prop) (hG : G l (xs.flatMap f)) : srcCells H n (.slice p l c) G := by
  have hl := h.len
  by_cases hne : 0 < xs.length
  · obtain ⟨b, o, hp, _⟩ := h.at hne
    exact sn_srcG hn hf h (.inr ⟨b, o, hp⟩) G hG
  · have h0 : xs = [] := List.length_eq_zero_iff.1 (by omega)
    subst h0
    simp at hl; subst hl
    exact src_nil G hG
theorem Sl.nil0 {f : α → Value} (h : Sl f H p l c xs) (hp : p = Option.none) : l = 0 := by
  rw [h.len]
  by_cases hne : 0 < xs.length
  · obtain ⟨b, o, e, _⟩ := h.at hne
    rw [hp] at e; cases e
  · omega
theorem Sn.nil0 {n : Nat} {f : α → List Value} (h : Sn n f H p l c xs) (hp : p = Option.none) : l = 0 := by
  rw [h.len]
  by_cases hne : 0 < xs.length
  · obtain ⟨b, o, e, _⟩ := h.at hne
    rw [hp] at e; cases e
  · omega
/-- An empty row in new memory. -/
theorem Buf.empty {s : Nat} {A H : Hp} {b : Nat} (hA : A b = Option.none) (hH : H b = Option.some []) : Buf s A H (Option.some ⟨b, 0, Option.none⟩) 0 0 [] :=
  ⟨by simp, .inr ⟨b, [], rfl, hA, by simpa using hH, by simp, Nat.le_refl _, rfl⟩⟩

/-- slices.Clone: as it is in memory. -/
theorem cloneL {te : TE} {s : Nat} {cells : List Value} (hs : te.size = s) (hpos : 0 < s) (hz : te.zc.length = s) (hbp : 0 < te.bytes) (hzc : te.zc.all isCell = true) (hlen : cells.length = l * s) (hcell : cells.all isCell = true) (hfit : l * te.bytes ≤ 140737488355328)
    (hsrc : ∀ {H'}, Le H H' → ∀ G : Nat → List Value → Prop, G l cells → srcCells H' s (.slice p l c) G) (hnil : p = Option.none → l = 0)
    {F : Option Addr → Nat → Nat → Hp → Prop}
    (hF : ∀ p' c' H', Buf s H H' p' l c' cells → (p = Option.none ↔ p' = Option.none) → Le H H' → F p' l c' H') (htl : te.tl = [] := by rfl) :
    bc (decide (p = Option.none)) (F Option.none 0 0 H) (NEW H [] fun b H1 => APP H1 te (Option.some ⟨b, 0, Option.none⟩) 0 0 (.slice p l c) fun p' l' c' H' => F p' l' c' H') := by
  refine bcd (fun h => ?_) (fun h => ?_)
  · have hl := hnil h
    subst hl
    have h0 : cells = [] := List.length_eq_zero_iff.1 (by rw [hlen]; simp)
    subst h0
    exact hF Option.none 0 H Buf.none (by simp [h]) (Le.refl _)
  · intro b hb
    by_cases hl : l = 0
    · subst hl
      have h0 : cells = [] := List.length_eq_zero_iff.1 (by rw [hlen]; simp)
      subst h0
      unfold APP
      rw [hs]
      refine hsrc (Le.upd hb) _ ⟨fun _ => ⟨fun i hi => by simp at hi, fun v hv => by simp at hv, ?_⟩, fun h => by omega⟩
      exact hF _ 0 _ (Buf.empty hb (by simp [wrN, upd])) (by simp [h]) (Le.upd hb)
    · refine Buf.appN (A := H) (n := l) (new := cells) (Buf.empty hb (by simp [upd])) hs hpos hz hbp hlen hcell (by rw [Nat.zero_add]; exact hfit) (Le.upd hb) (fun G hG => hsrc (Le.upd hb) G hG) (fun p' c' H' hB hle _ => ?_) hzc htl
      rw [Nat.zero_add] at hB ⊢
      refine hF p' c' H' (by simpa using hB) ⟨fun e => absurd e h, fun e => ?_⟩ hle
      rcases hB.2 with ⟨_, h0, hc⟩ | ⟨b', r, h1, _⟩
      · exact absurd h0 hl
      · rw [h1] at e; cases e
theorem clone1 {te : TE} {f : α → Value} (hs : te.size = 1) (hz : te.zc.length = 1) (hbp : 0 < te.bytes) (hzc : te.zc.all isCell = true) (hf : ∀ x, isCell (f x) = true) (h : Sl f H p l c xs) (hp : PtOk p) (hfit : l * te.bytes ≤ 140737488355328) (hnil : p = Option.none → l = 0)
    {F : Option Addr → Nat → Nat → Hp → Prop}
    (hF : ∀ p' c' H', Buf 1 H H' p' l c' (xs.map f) → (p = Option.none ↔ p' = Option.none) → Le H H' → F p' l c' H') (htl : te.tl = [] := by rfl) :
    bc (decide (p = Option.none)) (F Option.none 0 0 H) (NEW H [] fun b H1 => APP H1 te (Option.some ⟨b, 0, Option.none⟩) 0 0 (.slice p l c) fun p' l' c' H' => F p' l' c' H') :=
  cloneL hs (by decide) hz hbp hzc (by simp [h.len]) (List.all_eq_true.2 fun v hv => by obtain ⟨x, _, rfl⟩ := List.mem_map.1 hv; exact hf x) hfit (fun hle G hG => sl_srcG (h.le hle) hp G hG) hnil hF htl
/-- slices.Clone of one-cell elements, of a slice that came from anywhere. -/
theorem clonS {te : TE} {f : α → Value} (hs : te.size = 1) (hz : te.zc.length = 1) (hbp : 0 < te.bytes) (hzc : te.zc.all isCell = true) (hf : ∀ x, isCell (f x) = true) (h : Sl f H p l c xs) (hfit : l * te.bytes ≤ 140737488355328)
    {F : Option Addr → Nat → Nat → Hp → Prop}
    (hF : ∀ p' c' H', Buf 1 H H' p' l c' (xs.map f) → (p = Option.none ↔ p' = Option.none) → Le H H' → F p' l c' H') (htl : te.tl = [] := by rfl) :
    bc (decide (p = Option.none)) (F Option.none 0 0 H) (NEW H [] fun b H1 => APP H1 te (Option.some ⟨b, 0, Option.none⟩) 0 0 (.slice p l c) fun p' l' c' H' => F p' l' c' H') :=
  cloneL hs (by decide) hz hbp hzc (by simp [h.len]) (List.all_eq_true.2 fun v hv => by obtain ⟨x, _, rfl⟩ := List.mem_map.1 hv; exact hf x) hfit (fun hle G hG => sl_src (h.le hle) G hG) h.nil0 hF htl
/-- Of structs. -/
theorem clonN {te : TE} {n : Nat} {f : α → List Value} (hs : te.size = n) (hpos : 0 < n) (hz : te.zc.length = n) (hbp : 0 < te.bytes) (hzc : te.zc.all isCell = true) (hn : ∀ x, (f x).length = n) (hf : ∀ x, (f x).all isCell = true) (h : Sn n f H p l c xs) (hfit : l * te.bytes ≤ 140737488355328)
    {F : Option Addr → Nat → Nat → Hp → Prop}
    (hF : ∀ p' c' H', Buf n H H' p' l c' (xs.flatMap f) → (p = Option.none ↔ p' = Option.none) → Le H H' → F p' l c' H') (htl : te.tl = [] := by rfl) :
    bc (decide (p = Option.none)) (F Option.none 0 0 H) (NEW H [] fun b H1 => APP H1 te (Option.some ⟨b, 0, Option.none⟩) 0 0 (.slice p l c) fun p' l' c' H' => F p' l' c' H') :=
  cloneL hs hpos hz hbp hzc (by rw [flatMap_len hn, h.len]) (List.all_eq_true.2 fun v hv => by obtain ⟨x, _, hx⟩ := List.mem_flatMap.1 hv; exact List.all_eq_true.1 (hf x) v hx) hfit (fun hle G hG => sn_src hpos hn (h.le hle) G hG) h.nil0 hF htl
end

/-! ### Rows of rows -/
def blkL (p : Option Addr) : List Nat := match p with | some a => [a.block] | none => []
theorem blkL_mem {p : Option Addr} {b : Nat} (hp : ∀ a, p = some a → a.off = 0 ∧ a.spot = none) (h : b ∈ blkL p) : p = some ⟨b, 0, none⟩ := by
  unfold blkL at h
  split at h
  · rename_i a
    obtain ⟨h1, h2⟩ := hp a rfl
    simp only [List.mem_singleton] at h
    subst h
    obtain ⟨x, y, z⟩ := a
    simp only at h1 h2
    subst h1 h2
    rfl
  · cases h
theorem Buf.zero {s : Nat} {A H : Hp} {p : Option Addr} {l c : Nat} {cells : List Value} (h : Buf s A H p l c cells) : ∀ a, p = some a → a.off = 0 ∧ a.spot = Option.none := by
  intro a e
  rcases h.2 with ⟨h0, _, _⟩ | ⟨b, r, h1, _⟩
  · rw [h0] at e; cases e
  · rw [h1] at e; cases e; exact ⟨rfl, rfl⟩
theorem Buf.there {s : Nat} {A H : Hp} {p : Option Addr} {l c : Nat} {cells : List Value} (h : Buf s A H p l c cells) {b o : Nat} (e : p = some ⟨b, o, Option.none⟩) : H b ≠ Option.none := by
  rcases h.2 with ⟨h0, _, _⟩ | ⟨b', r, h1, _, h3, _⟩
  · rw [h0] at e; cases e
  · rw [h1] at e; simp only [Option.some.injEq, Addr.mk.injEq] at e; obtain ⟨rfl, _⟩ := e; rw [h3]; intro h; cases h
/-- Two rows' memory has nothing in common. -/
def Apart (p q : Option Addr) : Prop := ∀ b o o', p = some ⟨b, o, none⟩ → q ≠ some ⟨b, o', none⟩
theorem Apart.symm {p q : Option Addr} (h : Apart p q) : Apart q p := fun b o o' e e' => h b o' o e' e
theorem Apart.none {q : Option Addr} : Apart none q := fun _ _ _ e => by cases e
theorem Buf.apart {s s' : Nat} {A H : Hp} {p q : Option Addr} {l c l' c' : Nat} {cells cells' : List Value} (_ : Buf s A H p l c cells) (h' : Buf s' A H q l' c' cells') (hn : New H p) : Apart p q := fun b o _ e e' => h'.there e' (hn b o e)
theorem Buf.modA {s s' : Nat} {A H H' B C : Hp} {p q : Option Addr} {l c l' c' : Nat} {cells cells' : List Value} (h : Buf s A H p l c cells) (hq : Buf s' B C q l' c' cells') (hm : Mod (blkL q) H H') (ha : Apart p q) : Buf s A H' p l c cells :=
  h.mod hm fun b o e hb => ha b o 0 e (blkL_mem hq.zero hb)

/-- append(out, x): as push. -/
theorem Buf.pushM {s : Nat} {A H : Hp} {p : Option Addr} {l c : Nat} {cells : List Value} (hB : Buf s A H p l c cells) {te : TE} {new : List Value} (hs : te.size = s) (hpos : 0 < s) (hz : te.zc.length = s) (hbp : 0 < te.bytes)
    (hnl : new.length = s) (hcell : new.all isCell = true) (hfit : (l + 1) * te.bytes ≤ 140737488355328)
    {F : Option Addr → Nat → Nat → Hp → Prop}
    (hF : ∀ p' c' H', Buf s A H' p' (l + 1) c' (cells ++ new) → (p' = p ∨ New H p') → Mod (blkL p) H H' → F p' (l + 1) c' H') (hA : Le A H) (hzc : te.zc.all isCell = true := by rfl) (htl : te.tl = [] := by rfl) :
    NEW H new fun b H1 => APP H1 te p l c (.slice (some ⟨b, 0, Option.none⟩) 1 1) F :=
  hB.push hs hpos hz hbp hnl hcell hfit (fun p' c' H' h1 h2 h3 => hF p' c' H' h1 h2 fun b hb d hd => h3 b d hd fun e => hb (by rw [e]; simp [blkL])) hA hzc htl

/-- append(out, x), x in block b. -/
theorem Buf.pushAt {s : Nat} {A H : Hp} {p : Option Addr} {l c : Nat} {cells : List Value} (hB : Buf s A H p l c cells) {te : TE} {new : List Value} {b : Nat} (hb : H b = some new) (hs : te.size = s) (hpos : 0 < s) (hz : te.zc.length = s) (hbp : 0 < te.bytes)
    (hnl : new.length = s) (hcell : new.all isCell = true) (hfit : (l + 1) * te.bytes ≤ 140737488355328)
    {F : Option Addr → Nat → Nat → Hp → Prop}
    (hF : ∀ p' c' H', Buf s A H' p' (l + 1) c' (cells ++ new) → (p' = p ∨ New H p') → Mod (blkL p) H H' → F p' (l + 1) c' H') (hA : Le A H) (hzc : te.zc.all isCell = true := by rfl) (htl : te.tl = [] := by rfl) :
    APP H te p l c (.slice (some ⟨b, 0, Option.none⟩) 1 1) F := by
  have hB0 := hB
  refine Buf.appN (A := but H p) (hB.base fun b hb _ => by unfold but; rw [hb]; simp) hs hpos hz hbp (by simpa using hnl) hcell hfit but_le (fun G hG => ⟨new, rdN_self hb (by simpa using hnl) hcell, hG⟩) (fun p' c' H' h1 h2 h3 => hF p' c' H' (h1.base fun b hb hn => ?_) ?_ ?_) hzc htl
  · rcases but_none hn with ⟨a, hp, ha⟩ | h
    · rcases hB.2 with ⟨h0, _, _⟩ | ⟨b', r, h1, h2, _⟩
      · rw [h0] at hp; cases hp
      · rw [h1] at hp; simp only [Option.some.injEq] at hp; subst hp; simp only at ha; subst ha; exact h2
    · exact none_of_le hA h
  · rcases h1.2 with ⟨h0, _, _⟩ | ⟨b', r, h4, h5, _⟩
    · right; rw [h0]; exact New.none
    · rcases but_none h5 with ⟨a, hp, ha⟩ | h
      · left
        rcases hB.2 with ⟨h0, _, _⟩ | ⟨b'', r, h6, _⟩
        · rw [h0] at hp; cases hp
        · rw [h6] at hp; simp only [Option.some.injEq] at hp; subst hp; simp only at ha; subst ha; rw [h4, h6]
      · right; rw [h4]; exact New.some h
  · intro b hb d hd
    rw [h3 b (by rw [hd]; intro h; cases h) (fun e => hb (by rw [e]; simp [blkL]))]; exact hd

theorem Buf.set {s : Nat} {A H : Hp} {b o l c : Nat} {cells : List Value} (h : Buf s A H (some ⟨b, o, Option.none⟩) l c cells) {i : Nat} {v : Value} (hi : i < cells.length) (hv : isCell v = true) : Buf s A (wr H b i v) (some ⟨b, o, Option.none⟩) l c (cells.set i v) := by
  refine ⟨by simpa using h.1, ?_⟩
  rcases h.2 with ⟨h0, _, _⟩ | ⟨b', r, h1, h2, h3, h4, h5, h6⟩
  · cases h0
  · simp only [Option.some.injEq, Addr.mk.injEq, and_true] at h1
    obtain ⟨rfl, rfl⟩ := h1
    refine .inr ⟨b, r, rfl, h2, ?_, by simpa using h4, h5, ?_⟩
    · unfold wr; rw [if_pos rfl, h3]
      simp [hi]
    · rw [List.all_eq_true] at h6 ⊢
      intro x hx
      rcases List.mem_append.1 hx with hx | hx
      · rcases List.mem_or_eq_of_mem_set hx with hx | rfl
        · exact h6 x (List.mem_append_left _ hx)
        · exact hv
      · exact h6 x (List.mem_append_right _ hx)
theorem Buf.rd {s : Nat} {A H : Hp} {b o l c : Nat} {cells : List Value} (h : Buf s A H (some ⟨b, o, Option.none⟩) l c cells) {i : Nat} {v : Value} (e : cells[i]? = some v) : rd H b (o + i) = some v := by
  rcases h.2 with ⟨h0, _, _⟩ | ⟨b', r, h1, h2, h3, h4, h5, h6⟩
  · cases h0
  · simp only [Option.some.injEq, Addr.mk.injEq, and_true] at h1
    obtain ⟨rfl, rfl⟩ := h1
    have hi : i < cells.length := by
      rcases Nat.lt_or_ge i cells.length with h | h
      · exact h
      · rw [List.getElem?_eq_none h] at e; cases e
    unfold Go.V.rd; rw [h3]
    simp only [Option.bind_some, Nat.zero_add]
    rw [List.getElem?_append_left hi, e]
    exact all_get h6 (i := i) (by rw [List.getElem?_append_left hi, e])
theorem Buf.some_of {s : Nat} {A H : Hp} {p : Option Addr} {l c : Nat} {cells : List Value} (h : Buf s A H p l c cells) (hne : 0 < l) : ∃ b, p = some ⟨b, 0, Option.none⟩ := by
  rcases h.2 with ⟨_, h0, _⟩ | ⟨b, r, h1, _⟩
  · omega
  · exact ⟨b, h1⟩

/-- A row's head. -/
abbrev Hd := Option Addr × Nat × Nat
def hv (h : Hd) : Value := .slice h.1 h.2.1 h.2.2
/-- A row of rows that grow, each in memory of its own. -/
def Grid {α : Type} (f : α → Value) (A H : Hp) (p : Option Addr) (l c : Nat) (rows : List (List α)) : Prop :=
  ∃ hs : List Hd, hs.length = rows.length ∧ Buf 1 A H p l c (hs.map hv) ∧ (∀ k (h : k < hs.length) (h' : k < rows.length), Buf 1 A H hs[k].1 hs[k].2.1 hs[k].2.2 (rows[k].map f)) ∧
    (∀ k (h : k < hs.length), Apart hs[k].1 p) ∧ ∀ j k (h : j < hs.length) (h' : k < hs.length), j ≠ k → Apart hs[j].1 hs[k].1

section
variable {α : Type} {f : α → Value} {A H : Hp} {p : Option Addr} {l c : Nat} {rows : List (List α)}
theorem Grid.none : Grid f A H none 0 0 [] := ⟨[], rfl, Buf.none, fun k h => by simp at h, fun k h => by simp at h, fun j k h => by simp at h⟩
theorem Grid.len (h : Grid f A H p l c rows) : l = rows.length := by
  obtain ⟨hs, h1, h2, _⟩ := h
  have := h2.1
  simp at this; omega
theorem Grid.le {H' : Hp} (h : Grid f A H p l c rows) (hle : Le H H') : Grid f A H' p l c rows := by
  obtain ⟨hs, h1, h2, h3, h4⟩ := h
  exact ⟨hs, h1, h2.le hle, fun k a b => (h3 k a b).le hle, h4⟩
theorem Grid.mod {H' : Hp} {O : List Nat} (h : Grid f A H p l c rows) (hm : Mod O H H') (hO : ∀ b ∈ O, A b ≠ Option.none) : Grid f A H' p l c rows := by
  obtain ⟨hs, h1, h2, h3, h4⟩ := h
  exact ⟨hs, h1, h2.mod hm fun b o e hb => hO b hb (h2.fr b o e), fun k a b => (h3 k a b).mod hm fun b' o e hb => hO b' hb ((h3 k a b).fr b' o e), h4⟩
/-- out = append(out, nil). -/
theorem Grid.add (h : Grid f A H p l c rows) (hA : Le A H) {te : TE} (hs : te.size = 1) (hz : te.zc.length = 1) (hbp : 0 < te.bytes) (hfit : (l + 1) * te.bytes ≤ 140737488355328) (hzc : te.zc.all isCell = true)
    {F : Option Addr → Nat → Nat → Hp → Prop}
    (hF : ∀ p' c' H', Grid f A H' p' (l + 1) c' (rows ++ [[]]) → Le A H' → F p' (l + 1) c' H') (htl : te.tl = [] := by rfl) :
    NEW H [.slice Option.none 0 0] fun b H1 => APP H1 te p l c (.slice (some ⟨b, 0, Option.none⟩) 1 1) F := by
  obtain ⟨hd, h1, h2, h3, h4, h5⟩ := h
  refine h2.pushM hs (by decide) hz hbp rfl rfl hfit (fun p' c' H' hB hp hm => hF p' c' H' ?_ ?_) hA hzc htl
  · refine ⟨hd ++ [(Option.none, 0, 0)], by simp [h1], by simpa [hv] using hB, fun k hk hk' => ?_, fun k hk => ?_, fun j k hj hk hjk => ?_⟩
    · by_cases e : k < hd.length
      · have e' : k < rows.length := by omega
        simp only [List.getElem_append_left e, List.getElem_append_left e']
        exact (h3 k e e').modA h2 hm (h4 k e)
      · have e1 : k = hd.length := by simp at hk; omega
        subst e1
        simp only [List.getElem_append_right (Nat.le_refl _), Nat.sub_self, List.getElem_singleton, List.getElem_append_right (as := rows) (i := hd.length) (by omega)]
        simpa using Buf.none
    · by_cases e : k < hd.length
      · simp only [List.getElem_append_left e]
        rcases hp with rfl | hp
        · exact h4 k e
        · exact fun b o o' e1 e2 => (h3 k e (by omega)).there e1 (hp b o' e2)
      · have e1 : k = hd.length := by simp at hk; omega
        subst e1
        simp only [List.getElem_append_right (Nat.le_refl _), Nat.sub_self, List.getElem_singleton]
        exact Apart.none
    · by_cases e : j < hd.length
      · by_cases e' : k < hd.length
        · simp only [List.getElem_append_left e, List.getElem_append_left e']; exact h5 j k e e' hjk
        · have e1 : k = hd.length := by simp at hk; omega
          subst e1
          simp only [List.getElem_append_right (Nat.le_refl _), Nat.sub_self, List.getElem_singleton]
          exact Apart.none.symm
      · have e1 : j = hd.length := by simp at hj; omega
        subst e1
        simp only [List.getElem_append_right (Nat.le_refl _), Nat.sub_self, List.getElem_singleton]
        exact Apart.none
  · exact hm.le hA fun b hb => by
      have := blkL_mem h2.zero hb
      exact h2.fr b 0 this
/-- out[k] = append(out[k], x). -/
theorem Grid.app (h : Grid f A H p l c rows) (hA : Le A H) {te : TE} (hs : te.size = 1) (hz : te.zc.length = 1) (hbp : 0 < te.bytes) (hzc : te.zc.all isCell = true) {i : Int} {k : Nat} (hi : i = (k : Int)) (hk : k < rows.length) {x : α} (hx : isCell (f x) = true)
    (hfit : (rows[k].length + 1) * te.bytes ≤ 140737488355328) {F : Hp → Prop}
    (hF : ∀ H', Grid f A H' p l c (rows.set k (rows[k] ++ [x])) → Le A H' → F H') (htl : te.tl = [] := by rfl) :
    IDX i l fun k => NIL p fun b o => ldL (rd H b (o + k)) fun xp xl xc => NEW H [f x] fun b' H1 => APP H1 te xp xl xc (.slice (some ⟨b', 0, Option.none⟩) 1 1) fun xp' xl' xc' H2 =>
      IDX i l fun k' => NIL p fun b2 o2 => ST H2 b2 (o2 + k') (.slice xp' xl' xc') F := by
  have hl := h.len
  obtain ⟨hd, h1, h2, h3, h4, h5⟩ := h
  have hkd : k < hd.length := by omega
  obtain ⟨b, rfl⟩ := h2.some_of (by omega)
  refine idxN k hi (by omega) ?_
  refine ldL_i (h2.rd (i := k) (v := hv hd[k]) (by simp [hkd])) ?_
  have hB := h3 k hkd hk
  have hBl : hd[k].2.1 = rows[k].length := by have := hB.1; simpa using this
  refine hB.pushM hs (by decide) hz hbp rfl (by simp [hx]) (by rw [hBl]; exact hfit) (fun p' c' H' hB' hp hm => ?_) hA hzc htl
  have h2' := h2.modA hB hm (h4 k hkd).symm
  have rdk : Go.V.rd H' b (0 + k) = some (hv hd[k]) := h2'.rd (i := k) (by simp [hkd])
  refine idxN k hi (by omega) ?_
  have apo : ∀ j (hj : j < hd.length), j ≠ k → Apart p' hd[j].1 := fun j hj hjk => by
    rcases hp with rfl | hp
    · exact h5 k j hkd hj (Ne.symm hjk)
    · exact fun b' o o' e1 e2 => (h3 j hj (by omega)).there e2 (hp b' o e1)
  have ap : Apart p' (some ⟨b, 0, Option.none⟩) := by
    rcases hp with rfl | hp
    · exact h4 k hkd
    · exact fun b' o o' e1 e2 => h2.there e2 (hp b' o e1)
  have mb : ∀ {v}, Mod [b] H' (wr H' b (0 + k) v) := Mod.refl.wr (.inl (by simp))
  have hAb : A b = Option.none := h2.fr b 0 rfl
  have leA : Le A H' := hm.le hA fun b' hb' => hB.fr b' 0 (blkL_mem hB.zero hb')
  refine st rdk (hF _ ⟨hd.set k (p', hd[k].2.1 + 1, c'), by simp [h1], ?_, fun j hj hj' => ?_, fun j hj => ?_, fun i j hi hj hij => ?_⟩ (leA.wr hAb))
  · have := h2'.set (i := k) (v := .slice p' (hd[k].2.1 + 1) c') (by simp [hkd]) rfl
    rw [Nat.zero_add, List.map_set]
    exact this
  · simp only [List.length_set] at hj hj'
    by_cases e : j = k
    · subst e
      simp only [List.getElem_set_self, List.map_append]
      exact (hB'.mod mb fun b' o e hb' => by simp at hb'; subst hb'; exact ap _ _ _ e rfl)
    · simp only [List.getElem_set_ne (Ne.symm e)]
      refine ((h3 j hj hj').modA hB hm (h5 j k hj hkd e)).mod mb fun b' o e hb' => ?_
      simp at hb'; subst hb'; exact h4 j hj _ _ _ e rfl
  · simp only [List.length_set] at hj
    by_cases e : j = k
    · subst e; simp only [List.getElem_set_self]; exact ap
    · simp only [List.getElem_set_ne (Ne.symm e)]; exact h4 j hj
  · simp only [List.length_set] at hi hj
    by_cases e : i = k
    · subst e
      simp only [List.getElem_set_self, List.getElem_set_ne hij]
      exact apo j (by simpa using hj) (Ne.symm hij)
    · simp only [List.getElem_set_ne (Ne.symm e)]
      by_cases e' : j = k
      · subst e'; simp only [List.getElem_set_self]; exact (apo i (by simpa using hi) e).symm
      · simp only [List.getElem_set_ne (Ne.symm e')]; exact h5 i j hi hj hij
/-- A look at a row. -/
theorem Grid.at (h : Grid f A H p l c rows) {i : Int} {k : Nat} (hi : i = (k : Int)) (hk : k < rows.length) {F : Option Addr → Nat → Nat → Prop} (hF : ∀ q l' c', Sl f H q l' c' rows[k] → F q l' c') :
    IDX i l fun k => NIL p fun b o => ldL (rd H b (o + k)) F := by
  have hl := h.len
  obtain ⟨hd, h1, h2, h3, h4, h5⟩ := h
  have hkd : k < hd.length := by omega
  obtain ⟨b, rfl⟩ := h2.some_of (by omega)
  refine idxN k hi (by omega) ?_
  refine ldL_i (h2.rd (i := k) (v := hv hd[k]) (by simp [hkd])) ?_
  exact hF _ _ _ (h3 k hkd hk).sl
end

theorem tmodN {a : Int} {k : Nat} (h : 0 ≤ a) : Int.tmod a (k : Int) = ((a.toNat % k : Nat) : Int) := by
  rw [Int.tmod_eq_emod_of_nonneg h, Int.natCast_emod, Int.toNat_of_nonneg h]
theorem ne_of_none {H : Hp} {a b : Nat} (ha : H a ≠ none) (hb : H b = none) : a ≠ b := fun e => ha (e ▸ hb)
/-- Numbers. -/
def iv (n : Nat) : Value := .int .i64 (n : Int)
end Go.V
