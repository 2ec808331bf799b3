/- Contracts. -/
import Derived.Test.YtimgnhleaekmhaaM5
namespace Go.Proofs.Ytimgnhleaekmhaa
open Go.V
/-! ### What is known -/
theorem bs_ne {l r : List UInt8} (h : l ≠ r) : bs l ≠ bs r := fun e => h (by simpa [bs] using e)

def abc : List ByteArray := [bs [97], bs [98], bs [99]]
def bcd' : List ByteArray := [bs [98], bs [99], bs [100]]
theorem known_lcs : lcs abc bcd' = 2 := by simp [lcs, abc, bcd', bs]
theorem sl_new {α : Type} {f : α → Value} {H : Hp} {b : Nat} {xs : List α} (hc : ∀ x, isCell (f x) = true) : Sl f (upd H b (xs.map f)) (some ⟨b, 0, Option.none⟩) xs.length xs.length xs :=
  ⟨rfl, Nat.le_refl _, .inr ⟨b, 0, rfl, fun i hi => by rw [rd_upd_self]; simp [hi, nm_cell (hc _)]⟩⟩
theorem sl_str {H : Hp} {b n : Nat} {xs : List ByteArray} (hn : n = xs.length) : Sl Value.string (upd H b (xs.map Value.string)) (some ⟨b, 0, Option.none⟩) n n xs := by subst hn; exact sl_new fun _ => rfl

theorem V_take {a b : List ByteArray} (ha : a.length ≤ 200) (hb : b.length ≤ 200) : a.take 200 = a ∧ b.take 200 = b := ⟨List.take_of_length_le ha, List.take_of_length_le hb⟩

theorem known_gr : Gr abc bcd' 0 0 [(1, 0), (2, 1)] := by
  refine .cons (p := 1) (q := 0) (by omega) (by omega) ⟨by decide, by decide, by decide, by simp [V, lcs, abc, bcd', bs]⟩ (fun p' q' _ _ h => ?_) (.cons (p := 2) (q := 1) (by omega) (by omega) ⟨by decide, by decide, by decide, by simp [V, lcs, abc, bcd', bs]⟩ (fun p' q' _ _ h => ?_) (.nil (by simp [V, lcs, abc, bcd', bs])))
  · rintro ⟨h1, h2, h3, _⟩
    obtain rfl : p' = 0 := by omega
    match q', h2, h3 with
    | 0, _, h3 => exact absurd h3 (by decide)
    | 1, _, h3 => exact absurd h3 (by decide)
    | 2, _, h3 => exact absurd h3 (by decide)
    | n + 3, h2, _ => exact absurd h2 (by simp [bcd'])
  · rintro ⟨h1, h2, h3, _⟩
    omega

theorem centolaw11_known.c {H : Hp} {K : Bool → Hp → Prop} (hK : ∀ H', Le H H' → K true H') : centolaw11_known.C H K := by
  apply centolaw11_known.of
  intro x hx y hy
  have le1 : Le H (upd (upd H x (abc.map Value.string)) y (bcd'.map Value.string)) := (Le.upd hx).trans (Le.upd hy)
  have sx : Sl Value.string (upd (upd H x (abc.map Value.string)) y (bcd'.map Value.string)) (some ⟨x, 0, Option.none⟩) 3 3 abc := (sl_str rfl).le (Le.upd hy)
  have sy : Sl Value.string (upd (upd H x (abc.map Value.string)) y (bcd'.map Value.string)) (some ⟨y, 0, Option.none⟩) 3 3 bcd' := sl_str rfl
  have tk := V_take (a := abc) (b := bcd') (by decide) (by decide)
  refine match_Longest.c sx sy fun p l c r H1 hG hs hle => ?_
  rw [tk.1, tk.2] at hG
  obtain rfl := hG.uniq known_gr
  have hlen := hs.len
  refine bcd (fun _ => ?_) (fun h => absurd (by rw [hlen]; rfl) h)
  refine snP (i := 0) hs (by omega) (by rw [hlen]; decide) fun h0 => ?_
  refine bc_i (fun _ => ?_) (fun h => by simp at h)
  refine snP (i := 1) hs (by omega) (by rw [hlen]; decide) fun h1 => ?_
  refine bc_i (fun _ => ?_) (fun h => by simp at h)
  refine match_Length.c (sx.le hle) (sy.le hle) fun H2 hle2 => ?_
  rw [tk.1, tk.2, known_lcs]
  refine bc_i (fun _ => ?_) (fun h => absurd h (by decide))
  have hle' := hle.trans hle2
  refine match_Is.c (sx.le hle') (sy.le hle') (hs.le hle2) (by decide) fun H3 hle3 => ?_
  rw [tk.1, tk.2]
  refine bc_i (fun _ => ?_) (fun h => absurd h (by decide))
  intro z hz
  have hle'' := (hle'.trans hle3).trans (Le.upd (c := [.int .i64 0, .int .i64 0]) hz)
  have hz1 : Sn 2 pairC (upd H3 z [.int .i64 0, .int .i64 0]) (some ⟨z, 0, Option.none⟩) 1 1 [((0 : Int), (0 : Int))] :=
    ⟨rfl, Nat.le_refl _, .inr ⟨z, 0, rfl, fun i hi j v e => by
      obtain rfl : i = 0 := by simp at hi; omega
      match j, e with
      | 0, e => simp [pairC] at e; subst e; rw [rd_upd_self]; rfl
      | 1, e => simp [pairC] at e; subst e; rw [rd_upd_self]; rfl
      | j + 2, e => simp [pairC] at e⟩⟩
  refine match_Is.c (sx.le hle'') (sy.le hle'') hz1 (by decide) fun H4 hle4 => ?_
  rw [tk.1, tk.2]
  exact hK H4 (le1.trans (hle''.trans hle4))
end Go.Proofs.Ytimgnhleaekmhaa
