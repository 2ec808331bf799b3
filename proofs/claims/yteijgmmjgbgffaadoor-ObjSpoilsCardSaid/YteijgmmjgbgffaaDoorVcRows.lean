/- Rows of rows that are done, and what append writes. No program in sight. -/
import Derived.Test.YteijgmmjgbgffaaDoorVcMem
namespace Go.V
open Go
/-! ### Rows of rows that are done -/
theorem Mod.keep {H H' : Hp} {O : List Nat} (h : Mod O H H') {b : Nat} (ho : b ∉ O) (hb : H b ≠ none) : H' b = H b := by
  cases e : H b with
  | none => exact absurd e hb
  | some d => exact h b ho d e
theorem Mod.via {O : List Nat} {A H H' : Hp} {p : Option Addr} (h : Mod O A H) (h' : Mod (blkL p) H H') (hp : ∀ b ∈ blkL p, b ∈ O ∨ A b = none) : Mod O A H' := fun b hb c e => by
  refine h' b (fun hx => ?_) c (h b hb c e)
  rcases hp b hx with h1 | h1
  · exact hb h1
  · rw [h1] at e; cases e
/-- append(out, x..). -/
theorem Buf.appM {s : Nat} {A H : Hp} {p : Option Addr} {l c : Nat} {cells : List Value} (hB : Buf s A H p l c cells) {te : TE} {x : Value} {new : List Value} {n : Nat} (hs : te.size = s) (hpos : 0 < s) (hz : te.zc.length = s) (hbp : 0 < te.bytes)
    (hnl : new.length = n * s) (hcell : new.all isCell = true) (hfit : (l + n) * te.bytes ≤ 140737488355328) (hsrc : ∀ G : Nat → List Value → Prop, G n new → srcCells H s x G)
    {F : Option Addr → Nat → Nat → Hp → Prop}
    (hF : ∀ p' c' H', Buf s A H' p' (l + n) c' (cells ++ new) → (p' = p ∨ New H p') → Mod (blkL p) H H' → F p' (l + n) c' H') (hA : Le A H) (hzc : te.zc.all isCell = true := by rfl) (htl : te.tl = [] := by rfl) :
    APP H te p l c x F := by
  have hB0 := hB
  refine Buf.appN (A := but H p) (hB.base fun b hb _ => by unfold but; rw [hb]; simp) hs hpos hz hbp hnl hcell hfit but_le hsrc (fun p' c' H' h1 h2 h3 => hF p' c' H' (h1.base fun b hb hn => ?_) ?_ ?_) hzc htl
  · rcases but_none hn with ⟨a, hp, ha⟩ | h
    · rcases hB.2 with ⟨h0, _, _⟩ | ⟨b', r, h1, h2, _⟩
      · rw [h0] at hp; cases hp
      · rw [h1] at hp; simp only [Option.some.injEq] at hp; subst hp; simp only at ha; subst ha; exact h2
    · exact none_of_le hA h
  · rcases h1.2 with ⟨h0, _, _⟩ | ⟨b', r, h4, h5, _⟩
    · right; rw [h0]; exact New.none
    · rcases but_none h5 with ⟨a, hp, ha⟩ | h
      · left
        rcases hB.2 with ⟨h0, _, _⟩ | ⟨b'', r, h6, _⟩
        · rw [h0] at hp; cases hp
        · rw [h6] at hp; simp only [Option.some.injEq] at hp; subst hp; simp only at ha; subst ha; rw [h4, h6]
      · right; rw [h4]; exact New.some h
  · intro b hb d hd
    rw [h3 b (by rw [hd]; intro h; cases h) (fun e => hb (by rw [e]; simp [blkL]))]; exact hd

/-- What was, is. -/
def Was (A H : Hp) : Prop := ∀ b, H b = none → A b = none
theorem Le.was {A H : Hp} (h : Le A H) : Was A H := fun _ e => none_of_le h e
theorem Was.trans {A B C : Hp} (h : Was A B) (h' : Was B C) : Was A C := fun b e => h b (h' b e)
theorem Mod.was {O : List Nat} {A H : Hp} (h : Mod O A H) (hO : ∀ b ∈ O, H b ≠ none) : Was A H := fun b e => by
  cases hA : A b with
  | none => rfl
  | some d => rw [h b (fun hb => hO b hb e) d hA] at e; cases e
def dmn (A H : Hp) : Hp := fun b => match A b with | none => none | some _ => H b
theorem dmn_le {A H : Hp} : Le (dmn A H) H := fun b d e => by
  unfold dmn at e
  split at e
  · cases e
  · exact e
theorem dmn_none {A H : Hp} {b : Nat} (h : A b = none) : dmn A H b = none := by unfold dmn; rw [h]
theorem none_dmn {A H : Hp} (hA : Was A H) {b : Nat} (h : dmn A H b = none) : A b = none := by
  unfold dmn at h
  split at h
  · assumption
  · exact hA b h
theorem Buf.appS {s : Nat} {A H : Hp} {p : Option Addr} {l c : Nat} {cells : List Value} (hB : Buf s A H p l c cells) {te : TE} {x : Value} {new : List Value} {n : Nat} (hs : te.size = s) (hpos : 0 < s) (hz : te.zc.length = s) (hbp : 0 < te.bytes)
    (hnl : new.length = n * s) (hcell : new.all isCell = true) (hfit : (l + n) * te.bytes ≤ 140737488355328) (hsrc : ∀ G : Nat → List Value → Prop, G n new → srcCells H s x G)
    {F : Option Addr → Nat → Nat → Hp → Prop}
    (hF : ∀ p' c' H', Buf s A H' p' (l + n) c' (cells ++ new) → (p' = p ∨ New H p') → Mod (blkL p) H H' → F p' (l + n) c' H') (hA : Was A H) (hzc : te.zc.all isCell = true := by rfl) (htl : te.tl = [] := by rfl) :
    APP H te p l c x F :=
  (hB.base (A' := dmn A H) fun _ _ e => dmn_none e).appM hs hpos hz hbp hnl hcell hfit hsrc (fun p' c' H' h1 h2 h3 => hF p' c' H' (h1.base fun _ _ e => none_dmn hA e) h2 h3) dmn_le hzc htl
theorem Buf.pushS {s : Nat} {A H : Hp} {p : Option Addr} {l c : Nat} {cells : List Value} (hB : Buf s A H p l c cells) {te : TE} {new : List Value} (hs : te.size = s) (hpos : 0 < s) (hz : te.zc.length = s) (hbp : 0 < te.bytes)
    (hnl : new.length = s) (hcell : new.all isCell = true) (hfit : (l + 1) * te.bytes ≤ 140737488355328)
    {F : Option Addr → Nat → Nat → Hp → Prop}
    (hF : ∀ p' c' H', Buf s A H' p' (l + 1) c' (cells ++ new) → (p' = p ∨ New H p') → Mod (blkL p) H H' → F p' (l + 1) c' H') (hA : Was A H) (hzc : te.zc.all isCell = true := by rfl) (htl : te.tl = [] := by rfl) :
    NEW H new fun b H1 => APP H1 te p l c (.slice (some ⟨b, 0, Option.none⟩) 1 1) F :=
  (hB.base (A' := dmn A H) fun _ _ e => dmn_none e).pushM hs hpos hz hbp hnl hcell hfit (fun p' c' H' h1 h2 h3 => hF p' c' H' (h1.base fun _ _ e => none_dmn hA e) h2 h3) dmn_le hzc htl
def Rw (A H : Hp) (p : Option Addr) (l c : Nat) (rows : List (List Nat)) : Prop :=
  ∃ hs : List Hd, hs.length = rows.length ∧ Buf 1 A H p l c (hs.map hv) ∧
    ∀ k (h : k < hs.length) (h' : k < rows.length), Sl iv H hs[k].1 hs[k].2.1 hs[k].2.2 rows[k] ∧ New A hs[k].1 ∧ (∀ x ∈ blkL hs[k].1, H x ≠ none) ∧ PtOk hs[k].1 ∧ Apart p hs[k].1
theorem Rw.none {A H : Hp} : Rw A H none 0 0 [] := ⟨[], rfl, Buf.none, fun k h => by simp at h⟩
section
variable {A H H' : Hp} {p : Option Addr} {l c : Nat} {rows : List (List Nat)} {O : List Nat}
theorem Rw.len (h : Rw A H p l c rows) : l = rows.length := by
  obtain ⟨hs, h1, h2, _⟩ := h
  have := h2.1
  simp at this; omega
theorem blkL_some {q : Option Addr} {b o : Nat} (e : q = some ⟨b, o, Option.none⟩) : b ∈ blkL q := by rw [e]; simp [blkL]
theorem blkL_new {q : Option Addr} (h : New A q) (hp : PtOk q) : ∀ b ∈ blkL q, A b = Option.none := fun b hb => by
  rcases hp with rfl | ⟨b', o, rfl⟩
  · simp [blkL] at hb
  · simp [blkL] at hb; subst hb; exact h b o rfl
theorem Rw.mod (h : Rw A H p l c rows) (hm : Mod O H H') (hO : ∀ b ∈ O, A b ≠ Option.none) : Rw A H' p l c rows := by
  obtain ⟨hs, h1, h2, h3⟩ := h
  refine ⟨hs, h1, h2.mod hm fun b o e hb => hO b hb (h2.fr b o e), fun k a b => ?_⟩
  obtain ⟨g1, g2, g3, g4, g5⟩ := h3 k a b
  have hno : ∀ x ∈ blkL hs[k].1, x ∉ O := fun x hx hb => hO x hb (blkL_new g2 g4 x hx)
  refine ⟨g1.mod hm fun x o e => hno x (blkL_some e), g2, fun x hx => ?_, g4, g5⟩
  rw [Mod.keep hm (hno x hx) (g3 x hx)]; exact g3 x hx
theorem Rw.le (h : Rw A H p l c rows) (hm : Le H H') : Rw A H' p l c rows := h.mod (O := []) hm.mod (by simp)
theorem Rw.base {A' : Hp} (h : Rw A H p l c rows) (hA : Le A' A) : Rw A' H p l c rows := by
  obtain ⟨hs, h1, h2, h3⟩ := h
  exact ⟨hs, h1, h2.base fun b _ e => none_of_le hA e, fun k a b => ⟨(h3 k a b).1, (h3 k a b).2.1.le hA, (h3 k a b).2.2⟩⟩
/-- out = append(out, row). -/
theorem Rw.push (h : Rw A H p l c rows) (hA : Was A H) {q : Option Addr} {m k : Nat} {row : List Nat} (hq : Sl iv H q m k row) (hn : New A q) (ht : ∀ x ∈ blkL q, H x ≠ Option.none) (ho : PtOk q) (hap : Apart p q)
    {te : TE} (hs : te.size = 1) (hz : te.zc.length = 1) (hbp : 0 < te.bytes) (hfit : (l + 1) * te.bytes ≤ 140737488355328) (hzc : te.zc.all isCell = true)
    {F : Option Addr → Nat → Nat → Hp → Prop} (hF : ∀ p' c' H', Rw A H' p' (l + 1) c' (rows ++ [row]) → (p' = p ∨ New H p') → Mod (blkL p) H H' → F p' (l + 1) c' H') (htl : te.tl = [] := by rfl) :
    NEW H [.slice q m k] fun b H1 => APP H1 te p l c (.slice (some ⟨b, 0, Option.none⟩) 1 1) F := by
  obtain ⟨hds, h1, h2, h3⟩ := h
  refine h2.pushS hs (by decide) hz hbp rfl rfl hfit (fun p' c' H' hB hp' hm => hF p' c' H' ⟨hds ++ [(q, m, k)], by simp [h1], by simpa [hv] using hB, fun i hi hi' => ?_⟩ hp' hm) hA hzc htl
  have key : ∀ {q' : Option Addr} {m' k' : Nat} {row' : List Nat}, Sl iv H q' m' k' row' → New A q' → (∀ x ∈ blkL q', H x ≠ Option.none) → PtOk q' → Apart p q' → Sl iv H' q' m' k' row' ∧ New A q' ∧ (∀ x ∈ blkL q', H' x ≠ Option.none) ∧ PtOk q' ∧ Apart p' q' := by
    intro q' m' k' row' g1 g2 g3 g4 g5
    have hno : ∀ x ∈ blkL q', x ∉ blkL p := fun x hx hb => by
      have hpz := blkL_mem h2.zero hb
      rcases g4 with rfl | ⟨b', o, rfl⟩
      · simp [blkL] at hx
      · simp [blkL] at hx; subst hx; exact g5 _ _ _ hpz rfl
    refine ⟨g1.mod hm fun x o e => hno x (blkL_some e), g2, fun x hx => by rw [Mod.keep hm (hno x hx) (g3 x hx)]; exact g3 x hx, g4, ?_⟩
    rcases hp' with rfl | hp'
    · exact g5
    · exact fun b o o' e e' => g3 b (blkL_some e') (hp' b o e)
  by_cases e : i < hds.length
  · simp only [List.getElem_append_left e, List.getElem_append_left (show i < rows.length by omega)]
    obtain ⟨g1, g2, g3, g4, g5⟩ := h3 i e (by omega)
    exact key g1 g2 g3 g4 g5
  · have e1 : i = hds.length := by simp at hi; omega
    subst e1
    simp only [List.getElem_append_right (Nat.le_refl _), Nat.sub_self, List.getElem_singleton]
    have e2 : (rows ++ [row])[hds.length]'hi' = row := by simp [h1]
    rw [e2]
    exact key hq hn ht ho hap
/-- A look at row k. -/
theorem Rw.at (h : Rw A H p l c rows) {i : Int} {k : Nat} (hi : i = (k : Int)) (hk : k < rows.length) {F : Option Addr → Nat → Nat → Prop} (hF : ∀ q l' c', Sl iv H q l' c' rows[k] → PtOk q → New A q → F q l' c') :
    IDX i l fun j => NIL p fun b o => ldL (rd H b (o + j)) F := by
  have hl := h.len
  obtain ⟨hs, h1, h2, h3⟩ := h
  obtain ⟨b, rfl⟩ := h2.some_of (by omega)
  refine idxN k hi (by omega) (nil ?_)
  have hk' : k < hs.length := by omega
  refine ldL_i (p := hs[k].1) (l := hs[k].2.1) (c := hs[k].2.2) (h2.rd (by simp [hk', hv])) ?_
  exact hF _ _ _ (h3 k hk' hk).1 (h3 k hk' hk).2.2.2.1 (h3 k hk' hk).2.1
/-- The first of row k. -/
theorem Rw.hd (h : Rw A H p l c rows) {i : Int} {k : Nat} (hi : i = (k : Int)) (hk : k < rows.length) (hne : rows[k] ≠ []) {F : Int → Prop} (hF : F (((rows[k].getD 0 0 : Nat)) : Int)) :
    IDX i l fun j => NIL p fun b o => ldL (rd H b (o + j)) fun xp xl _ => IDX (0 : Int) xl fun k2 => NIL xp fun b2 o2 => ldI .i64 (rd H b2 (o2 + k2)) F := by
  refine h.at hi hk fun q l' c' hs _ _ => ?_
  have hpos : 0 < rows[k].length := List.length_pos_iff.2 hne
  have hl := hs.len
  refine slI hs (g := fun (x : Nat) => (x : Int)) (fun _ => rfl) (by omega) (by omega) fun _ => ?_
  have e : rows[k].getD 0 0 = rows[k][(0 : Int).toNat]'(by simpa using hpos) := by simp [List.getD, hpos]
  rw [← e]; exact hF
end
theorem Mod.drop {O O' : List Nat} {H H' : Hp} (h : Mod O H H') (hs : ∀ b ∈ O, b ∈ O' ∨ H b = none) : Mod O' H H' := fun b hb c e => by
  refine h b (fun hx => ?_) c e
  rcases hs b hx with h1 | h1
  · exact hb h1
  · rw [h1] at e; cases e
end Go.V
