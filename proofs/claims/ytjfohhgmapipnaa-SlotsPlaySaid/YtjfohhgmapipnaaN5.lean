/- Contracts. -/
import Derived.Test.YtjfohhgmapipnaaN4
namespace Go.Proofs.Ytjfohhgmapipnaa
open Go.V
/-! ### Save -/
def chunks (b : BL) : List BL := if _h : b = [] then [] else pad (b.take 64) :: chunks (b.drop 64)
termination_by b.length
decreasing_by have := List.length_pos_iff.2 ‹_›; rw [List.length_drop]; omega
theorem chunks_nil : chunks [] = [] := by rw [chunks, dif_pos rfl]
theorem chunks_cons {b : BL} (h : b ≠ []) : chunks b = pad (b.take 64) :: chunks (b.drop 64) := by rw [chunks, dif_neg h]
def numW : Nat → List BL → List (Nat × BL)
  | _, [] => []
  | i, x :: r => (i, x) :: numW (i + 1) r
/-- From H0 to H the disk's state has become s; nothing of A is of the disk. -/
structure Stt (A H0 H : Hp) (d : Nat) (O0 O : List Nat) (s : DS) : Prop where
  dk : Dk H d O s
  md : Mod O0 H0 H
  gr : Grew H0 O0 O
  le : Le A H
  fr : ∀ x ∈ O, A x = none
section
variable {A H H1 H2 : Hp} {d : Nat} {O O1 O2 : List Nat} {s s1 s2 : DS}
theorem Stt.refl (h : Dk H d O s) (hA : Le A H) (hO : ∀ x ∈ O, A x = none) : Stt A H H d O O s := ⟨h, Mod.refl, Grew.refl, hA, hO⟩
theorem Stt.next (h : Stt A H H1 d O O1 s1) (hd : Dk H2 d O2 s2) (hm : Mod O1 H1 H2) (hg : Grew H1 O1 O2) : Stt A H H2 d O O2 s2 :=
  ⟨hd, Mod.into h.md hm h.gr, Grew.trans h.gr hg (none_of_mod h.md), hm.le h.le h.fr, own_grow h.le h.fr hg⟩
theorem Stt.up (h : Stt A H H1 d O O1 s1) (hl : Le H1 H2) : Stt A H H2 d O O1 s1 := ⟨h.dk.le hl, h.md.trans hl.mod, h.gr, h.le.trans hl, h.fr⟩
/-- A block that is new. -/
def Nu (A H : Hp) (O O1 : List Nat) (x : Nat) : Prop := (x ∈ O ∨ H x = none) ∧ x ∉ O1 ∧ A x = none
theorem Stt.nu (h : Stt A H H1 d O O1 s1) {x : Nat} (hx : H1 x = none) : Nu A H O O1 x :=
  ⟨by by_cases hO : x ∈ O; exact .inl hO; exact .inr (none_of_mod h.md x hO hx), fun h' => h.dk.there x h' hx, none_of_le h.le hx⟩
theorem Stt.mod {P : List Nat} (h : Stt A H H1 d O O1 s1) (hm : Mod P H1 H2) (hP : ∀ x ∈ P, Nu A H O O1 x) : Stt A H H2 d O O1 s1 :=
  ⟨h.dk.mod hm fun x hx hx' => (hP x hx').2.1 hx, fun b hb c' e => hm b (fun hb' => by
    rcases (hP b hb').1 with h1 | h1
    · exact hb h1
    · rw [h1] at e; cases e) c' (h.md b hb c' e), h.gr, hm.le h.le fun x hx => (hP x hx).2.2, h.fr⟩
theorem Nu.next {x : Nat} (h : Nu A H O O1 x) (hx : H1 x ≠ none) (hg : Grew H1 O1 O2) : Nu A H O O2 x := ⟨h.1, not_own hx h.2.1 hg, h.2.2⟩
end
/-- Where what is new goes to, what is written there, the new head. -/
def startS (N : Nat) (x : Hd × Nat) : Nat := 2 + (1 - x.1.a) * secN N
def wS (N : Nat) (x : Hd × Nat) (b : BL) : List (Nat × BL) := numW (startS N x) (chunks b)
def l2S (s : DS) (N : Nat) (x : Hd × Nat) (b : BL) : List BL := keepF (fun _ => true) 0 s.l (wS N x b)
def newH (x : Hd × Nat) (b : BL) : Hd := ⟨x.1.n + 1, 1 - x.1.a, b.length⟩
structure SaveP (s s' : DS) (N : Nat) (x : Hd × Nat) (b : BL) (e : Int) : Prop where
  n : s'.n ≤ s.n + b.length + 10
  left : s.left = none → s'.left = none
  out : (e = 0 ∧ s'.l = (l2S s N x b).set (1 - x.2) (hb (some (newH x b))) ∧ s'.w = []) ∨
    (e = 23 ∧ s'.left = some 0 ∧ ((s'.l = s.l ∧ ∃ r, s'.w ++ r = wS N x b) ∨ (s'.l = l2S s N x b ∧ (s'.w = [] ∨ s'.w = [(1 - x.2, hb (some (newH x b)))]))))
theorem off_left {s : DS} (h : ¬ s.on) : s.left = some 0 := Classical.not_not.1 h
theorem flush_off {s : DS} (h : ¬ s.on) : s.flush = s ∧ s.flushE = 23 := ⟨by unfold DS.flush; rw [if_neg h], by unfold DS.flushE; rw [if_neg h]⟩
theorem flush_on {s : DS} (h : s.on) : s.flush = { l := keepF (fun _ => true) 0 s.l s.w, w := [], n := s.n + 1, left := s.left.map (· - 1) } ∧ s.flushE = 0 := ⟨by unfold DS.flush; rw [if_pos h]; rfl, by unfold DS.flushE; rw [if_pos h]⟩
theorem write_off {s : DS} (h : ¬ s.on) (i : Int) (b : BL) : s.write i b = s ∧ s.writeE i b = 23 := ⟨by unfold DS.write; rw [if_neg h], by unfold DS.writeE; rw [if_neg h]⟩
theorem write_on {s : DS} (h : s.on) {i : Nat} {b : BL} (hi : i < s.l.length) (hb : b.length ≤ 64) : s.write (i : Nat) b = { l := s.l, w := s.w ++ [(i, pad b)], n := s.n + 1, left := s.left.map (· - 1) } ∧ s.writeE (i : Nat) b = 0 := by
  have hf : s.fits ((i : Nat) : Int) ∧ b.length ≤ 64 := ⟨⟨by omega, by omega⟩, hb⟩
  exact ⟨by unfold DS.write; rw [if_pos h, if_pos hf, Int.toNat_natCast]; rfl, by unfold DS.writeE; rw [if_pos h, if_pos hf]⟩
theorem take_min (r : BL) : r.take (min r.length 64) = r.take 64 := by
  by_cases h : r.length ≤ 64
  · rw [Nat.min_eq_left h, List.take_length, List.take_of_length_le h]
  · rw [Nat.min_eq_right (by omega)]
theorem drop_min (r : BL) : r.drop (min r.length 64) = r.drop 64 := by
  by_cases h : r.length ≤ 64
  · rw [Nat.min_eq_left h, List.drop_length, List.drop_of_length_le h]
  · rw [Nat.min_eq_right (by omega)]
section
variable {H : Hp} {d : Nat} {O : List Nat} {s : DS}
theorem slots_Save.full {b : BL} {K : Int → Hp → Prop} (hu : Dk H d O s) (hl : s.l.length ≤ 1000000000) (hfit : ¬ b.length ≤ roomN s.l.length) (hK : K 24 H) : slots_Save.C (some ⟨d, 0, none⟩) (mkB b) H K := by
  apply slots_Save.of
  refine sector_Disk_Len.c hu (bcd (fun _ => hK) fun h => slots_Room.c hu hl (bcd (fun _ => hK) fun h => ?_))
  rw [mkB_size] at h; omega
theorem slots_Save.small {b : BL} {K : Int → Hp → Prop} (hu : Dk H d O s) (hl : s.l.length < 21) (hK : K 24 H) : slots_Save.C (some ⟨d, 0, none⟩) (mkB b) H K := by
  apply slots_Save.of
  exact sector_Disk_Len.c hu (bcd (fun _ => hK) fun h => absurd h (by omega))
theorem slots_Save.c {A : Hp} {b : BL} {K : Int → Hp → Prop} {N m : Nat} {x0 x1 : Option Hd} (hu : Dk H d O s) (hA : Le A H) (hO : ∀ x ∈ O, A x = none) (h : Ok2 s N m x0 x1) (hn : s.n ≤ 900000000) (hm : m + 1 < 18446744073709551616) (hfit : b.length ≤ roomN N)
    (hK : ∀ e H' O' s', Stt A H H' d O O' s' → SaveP s s' N (best x0 x1) b e → K e H') : slots_Save.C (some ⟨d, 0, none⟩) (mkB b) H K := by
  have hN := h.big
  have hlen := h.len
  have hroom := roomN_le N
  have hbest := best_ok h.ok0 h.ok1
  have hb64 := roomN_sec hfit hN.1
  apply slots_Save.of
  refine sector_Disk_Len.c hu (bcd (fun h => absurd h (by omega)) fun _ => slots_Room.c hu (by omega) (bcd (fun hh => ?_) fun _ => ?_))
  · rw [hlen, mkB_size] at hh; omega
  unfold slots_Save.k1
  refine sector_Disk_Flush.c hu (by omega) fun H1 O1 h1 m1 g1 => ?_
  have t1 := (Stt.refl hu hA hO).next h1 m1 g1
  clear h1 m1 g1
  by_cases on : s.on
  case neg =>
    obtain ⟨e1, e2⟩ := flush_off on
    rw [e1] at t1
    rw [e2]
    exact bcd (fun _ => hK 23 H1 O1 s t1 ⟨by omega, id, .inr ⟨rfl, off_left on, .inl ⟨rfl, _, by rw [h.w0]; rfl⟩⟩⟩) (fun h => absurd (by decide) h)
  obtain ⟨e1, e2⟩ := flush_on on
  rw [h.w0] at e1
  rw [e2]
  refine bcd (fun h => absurd rfl h) fun _ => ?_
  rw [e1] at t1
  change Stt A H H1 d O O1 { l := s.l, w := [], n := s.n + 1, left := s.left.map (· - 1) } at t1
  have hs1 : ∃ s1 : DS, s1 = { l := s.l, w := [], n := s.n + 1, left := s.left.map (· - 1) } := ⟨_, rfl⟩
  obtain ⟨s1, hs1⟩ := hs1
  rw [← hs1] at t1
  have l1 : s1.l = s.l := by rw [hs1]
  have w1 : s1.w = [] := by rw [hs1]
  have n1 : s1.n = s.n + 1 := by rw [hs1]
  have f1 : s.left = none → s1.left = none := fun hh => by rw [hs1]; dsimp only; rw [hh]; rfl
  clear hs1 e1 e2
  by_cases on1 : s1.on
  case neg =>
    refine slots_newest.off t1.dk (by rw [w1]; exact Nat.zero_le _) (by rw [l1, hlen]; omega) on1 fun H2 le2 => ?_
    intro b23 hb23
    have r23 : R4 (upd H2 b23 [.int .u64 0, .int .i64 0, .int .i64 0, .int .i64 0]) b23 0 0 0 0 := R4.new
    have t1' := t1.up le2
    have nu := t1'.nu hb23
    have t2 := t1'.up (Le.upd (c := [.int .u64 0, .int .i64 0, .int .i64 0, .int .i64 0]) hb23)
    refine r23.put fun H3 r3 m3 => bcd (fun _ => ?_) fun h => absurd (by decide) h
    exact hK 23 H3 O1 s1 (t2.mod m3 (by simpa using nu)) ⟨by omega, f1, .inr ⟨rfl, off_left on1, .inl ⟨l1, _, by rw [w1]; rfl⟩⟩⟩
  -- what counts is known
  have ok1 : Ok2 s1 N m x0 x1 := ⟨w1, by rw [l1, hlen], by rw [l1]; exact h.c64, by rw [l1]; exact h.h0, by rw [l1]; exact h.h1, h.ok0, h.ok1, h.big, h.few⟩
  refine slots_newest.c t1.dk ok1 on1 fun H2 le2 => ?_
  have t2 := t1.up le2
  generalize best x0 x1 = x at *
  obtain ⟨⟨n, a, l⟩, at'⟩ := x
  dsimp only at *
  intro b23 hb23
  have nu23 := t2.nu hb23
  have r23 : R4 (upd H2 b23 [.int .u64 0, .int .i64 0, .int .i64 0, .int .i64 0]) b23 0 0 0 0 := R4.new
  have t3 := t2.up (Le.upd (c := [.int .u64 0, .int .i64 0, .int .i64 0, .int .i64 0]) hb23)
  generalize upd H2 b23 [.int .u64 0, .int .i64 0, .int .i64 0, .int .i64 0] = H3 at r23 t3
  refine r23.put fun H4 r4 m4 => bcd (fun h => absurd rfl h) fun _ => ?_
  have t4 := t3.mod m4 (by simpa using nu23)
  refine ldI_i r4.1 (ldI_i r4.2.1 (chk (by omega) (ldI_i r4.2.2.2 (chk (by omega) ?_))))
  intro b35 hb35
  have nu35 := t4.nu hb35
  have r35 : R4 (upd H4 b35 [.int .u64 0, .int .i64 0, .int .i64 0, .int .i64 0]) b35 0 0 0 0 := R4.new
  have t5 := t4.up (Le.upd (c := [.int .u64 0, .int .i64 0, .int .i64 0, .int .i64 0]) hb35)
  generalize upd H4 b35 [.int .u64 0, .int .i64 0, .int .i64 0, .int .i64 0] = H5 at r35 t5
  rw [show IntKind.wrap .u64 (((n : Nat) : Int) + 1) = ((n + 1 : Nat) : Int) by rw [u64w (by omega)]; omega, show (1 : Int) - ((a : Nat) : Int) = ((1 - a : Nat) : Int) by omega, show (1 : Int) - ((at' : Nat) : Int) = ((1 - at' : Nat) : Int) by omega]
  refine r35.put fun H6 r6 m6 => ?_
  have t6 := t5.mod m6 (by simpa using nu35)
  rw [mkB_size] at r6
  refine ldI_i r6.2.1 (slots_sectors.c t6.dk (by rw [l1]; omega) ⟨r6.2.1, ?_⟩)
  rw [l1, hlen]
  have hS : secN N ≤ 500 ∧ 2 + 2 * secN N ≤ N := by unfold secN; omega
  have haS : (1 - a) * secN N ≤ secN N := by
    have := Nat.mul_le_mul_right (secN N) (show 1 - a ≤ 1 by omega)
    omega
  have est : (2 : Int) + ((1 - a : Nat) : Int) * ((secN N : Nat) : Int) = ((2 + (1 - a) * secN N : Nat) : Int) := by push_cast; rfl
  refine chk ⟨by have := Int.natCast_nonneg ((1 - a) * secN N); push_cast at this; omega, by push_cast at *; omega⟩ ?_
  rw [est]
  refine chk (by omega) ?_
  have eSt : startS N (⟨n, a, l⟩, at') = 2 + (1 - a) * secN N := rfl
  generalize hst : 2 + (1 - a) * secN N = st' at *
  have t7 := t6
  refine ⟨fun i rest Hx => ∃ (q : Nat) (r : BL) (O' : List Nat) (s' : DS), i = (q : Nat) ∧ rest = mkB r ∧ Stt A H Hx d O O' s' ∧ R4 Hx b35 ((n + 1 : Nat) : Int) ((1 - a : Nat) : Int) ((b.length : Nat) : Int) ((1 - at' : Nat) : Int) ∧ Nu A H O O' b35 ∧ s'.l = s.l ∧ s'.w ++ numW q (chunks r) = numW st' (chunks b) ∧ s'.n + r.length ≤ s.n + 1 + b.length ∧ (s.left = none → s'.left = none) ∧ r.length + 64 * q ≤ 64 * (st' + secN N), fun _ rest _ => rest.size,
    ⟨st', b, O1, s1, rfl, rfl, t6, r6, nu35, l1, by rw [w1]; rfl, by omega, f1, by omega⟩, ?_⟩
  clear t7 t6 t5 t4 t3 t2 t1 r6 m6 r35 nu35 hb35 r4 m4 r23 nu23 hb23 le2
  rintro i rest H7 ⟨q, r, O7, s7, rfl, rfl, t7, r7, nu7, l7, w7, n7, f7, g7⟩
  refine bcd (fun hr => ?_) (fun hr => ?_)
  · have hr0 : r ≠ [] := fun e => hr (by rw [e]; rfl)
    have hrl := List.length_pos_iff.2 hr0
    rw [mkB_size]
    refine bnd01 (min r.length 64) (by omega) (by omega) ?_
    rw [ext_take, take_min]
    refine sector_Disk_Write.c t7.dk (by omega) fun H8 O8 h8 m8 g8 => ?_
    have t8 := t7.next h8 m8 g8
    have nu8 := nu7.next r7.there g8
    have r8 := r7.mod m8 nu7.2.1
    by_cases on7 : s7.on
    case neg =>
      obtain ⟨e1, e2⟩ := write_off on7 ((q : Nat) : Int) (r.take 64)
      rw [e1] at t8
      rw [e2]
      exact bcd (fun _ => hK 23 H8 O8 s7 t8 ⟨by omega, f7, .inr ⟨rfl, off_left on7, .inl ⟨l7, numW q (chunks r), by rw [w7]; unfold wS; rw [eSt]⟩⟩⟩) (fun h => absurd (by decide) h)
    obtain ⟨e1, e2⟩ := write_on on7 (i := q) (b := r.take 64) (by rw [l7, hlen]; omega) (by rw [List.length_take]; omega)
    rw [e1] at t8
    rw [e2]
    refine bcd (fun h => absurd rfl h) fun _ => ?_
    refine bnd10 (min r.length 64) (by omega) (by omega) ?_
    rw [← mkB_size r, ext_drop, mkB_size, drop_min]
    refine chk (by omega) ⟨⟨q + 1, r.drop 64, O8, _, by omega, rfl, t8, r8, nu8, l7, ?_, ?_, fun hh => ?_, ?_⟩, ?_⟩
    · show (s7.w ++ [(q, pad (r.take 64))]) ++ _ = _
      rw [← w7, chunks_cons hr0, numW, List.append_assoc]; rfl
    · rw [List.length_drop]; dsimp only; omega
    · show s7.left.map _ = none; rw [f7 hh]; rfl
    · rw [List.length_drop]; omega
    · show (mkB (r.drop 64)).size < (mkB r).size
      rw [mkB_size, mkB_size, List.length_drop]; omega
  have hr0 : r = [] := by
    have e' := Classical.not_not.1 hr
    exact congrArg L e'
  subst hr0
  rw [chunks_nil, numW, List.append_nil] at w7
  simp only [List.length_nil] at n7
  refine sector_Disk_Flush.c t7.dk (by omega) fun H8 O8 h8 m8 g8 => ?_
  have t8 := t7.next h8 m8 g8
  have nu8 := nu7.next r7.there g8
  have r8 := r7.mod m8 nu7.2.1
  by_cases on7 : s7.on
  case neg =>
    obtain ⟨e1, e2⟩ := flush_off on7
    rw [e1] at t8
    rw [e2]
    exact bcd (fun _ => hK 23 H8 O8 s7 t8 ⟨by omega, f7, .inr ⟨rfl, off_left on7, .inl ⟨l7, [], by rw [w7, List.append_nil]; unfold wS; rw [eSt]⟩⟩⟩) (fun h => absurd (by decide) h)
  obtain ⟨e1, e2⟩ := flush_on on7
  rw [e2]
  refine bcd (fun h => absurd rfl h) fun _ => ?_
  obtain ⟨s8, hs8⟩ : ∃ s8 : DS, s8 = s7.flush := ⟨_, rfl⟩
  rw [← hs8] at t8
  have l8 : s8.l = l2S s N (⟨n, a, l⟩, at') b := by rw [hs8, e1]; unfold l2S wS; rw [eSt, ← w7, l7]
  have w8 : s8.w = [] := by rw [hs8, e1]
  have n8 : s8.n = s7.n + 1 := by rw [hs8, e1]
  have f8 : s.left = none → s8.left = none := fun hh => by rw [hs8, e1]; dsimp only; rw [f7 hh]; rfl
  have len8 : s8.l.length = N := by rw [l8]; unfold l2S; rw [keepF_len, hlen]
  clear hs8 e1 e2 t7 r7 nu7 w7 l7 f7
  refine ldI_i r8.2.2.2 (ldI_i r8.1 (ldI_i r8.2.1 (ldI_i r8.2.2.1 (ldI_i r8.2.2.2 ?_))))
  refine slots_head_bytes.c (by omega) (by omega) (by omega) fun H9 le9 => ⟨(r8.le le9).2.2.2, ?_⟩
  have t9 := t8.up le9
  refine sector_Disk_Write.c t9.dk (by omega) fun H10 O10 h10 m10 g10 => ?_
  have t10 := t9.next h10 m10 g10
  by_cases on8 : s8.on
  case neg =>
    obtain ⟨e1, e2⟩ := write_off on8 ((1 - at' : Nat) : Int) (headB (n + 1) (1 - a) b.length)
    rw [e1] at t10
    rw [e2]
    exact bcd (fun _ => hK 23 H10 O10 s8 t10 ⟨by omega, f8, .inr ⟨rfl, off_left on8, .inr ⟨l8, .inl w8⟩⟩⟩) (fun h => absurd (by decide) h)
  obtain ⟨e1, e2⟩ := write_on on8 (i := 1 - at') (b := headB (n + 1) (1 - a) b.length) (by omega) (by have := headB_len (n := n + 1) (a := 1 - a) (l := b.length) (by omega) (by omega); omega)
  rw [e2]
  refine bcd (fun h => absurd rfl h) fun _ => ?_
  obtain ⟨s10, hs10⟩ : ∃ s10 : DS, s10 = s8.write ((1 - at' : Nat) : Int) (headB (n + 1) (1 - a) b.length) := ⟨_, rfl⟩
  rw [← hs10] at t10
  have l10 : s10.l = s8.l := by rw [hs10, e1]
  have w10 : s10.w = [(1 - at', hb (some (newH (⟨n, a, l⟩, at') b)))] := by rw [hs10, e1, w8]; rfl
  have n10 : s10.n = s8.n + 1 := by rw [hs10, e1]
  have f10 : s.left = none → s10.left = none := fun hh => by rw [hs10, e1]; dsimp only; rw [f8 hh]; rfl
  clear hs10 e1 e2
  refine sector_Disk_Flush.c t10.dk (by omega) fun H11 O11 h11 m11 g11 => ?_
  have t11 := t10.next h11 m11 g11
  by_cases on10 : s10.on
  case neg =>
    obtain ⟨e1, e2⟩ := flush_off on10
    rw [e1] at t11
    rw [e2]
    exact hK 23 H11 O11 s10 t11 ⟨by omega, f10, .inr ⟨rfl, off_left on10, .inr ⟨by rw [l10, l8], .inr w10⟩⟩⟩
  obtain ⟨e1, e2⟩ := flush_on on10
  rw [e1] at t11
  rw [e2]
  refine hK 0 H11 O11 _ t11 ⟨by dsimp only; omega, fun hh => ?_, .inl ⟨rfl, ?_, rfl⟩⟩
  · show s10.left.map _ = none; rw [f10 hh]; rfl
  · show keepF (fun _ => true) 0 s10.l s10.w = _
    rw [w10, l10, l8]; rfl
end
end Go.Proofs.Ytjfohhgmapipnaa
