/- For every input RowPlays returns true, and what came in reads as it did: tied to the table of math/bits. -/
import Derived.Test.YtimgnhleaekmhaaDoorB3
import Derived.Test.YtimgnhleaekmhaaDoorBT
import Derived.Test.YtimgnhleaekmhaaDoorVcOpen
import Derived.Test.YtimgnhleaekmhaaDoorVcRows
namespace Go.Proofs.YtimgnhleaekmhaaDoor
open Go.V
open Go.ChangeShapes Go.WideShapes Go.ChangeAt Go.RowKit Go.WideElems Go.WideMaps
/-- Marks. -/
def MB (H : Hp) (b n : Nat) (s : Nat → Bool) : Prop := ∀ x, x < n → rd H b x = some (.bool (s x))
theorem MB.mod {O : List Nat} {H H' : Hp} {b n : Nat} {s : Nat → Bool} (h : MB H b n s) (hm : Mod O H H') (hb : b ∉ O) : MB H' b n s := fun x hx => hm.rd hb (h x hx)
theorem MB.le {H H' : Hp} {b n : Nat} {s : Nat → Bool} (h : MB H b n s) (hm : Le H H') : MB H' b n s := fun x hx => hm.rd (h x hx)
theorem MB.put {H : Hp} {b n : Nat} {s s' : Nat → Bool} (h : MB H b n s) {x : Nat} {v : Bool} (hx : x < n) (hs : ∀ y, y < n → s' y = if y = x then v else s y) : MB (wr H b x (.bool v)) b n s' := fun y hy => by
  rw [hs y hy]
  by_cases e : y = x
  · subst e; rw [if_pos rfl, rd_wr_self (h y hy)]
  · rw [if_neg e, rd_wr_off e, h y hy]
def inS (n : Nat) (l : List Int) : Nat → Bool := fun j => decide (j < n) && l.any fun x => decide (x = (j : Int))
theorem inS_snoc {n : Nat} {l : List Int} {x : Int} : inS n (l ++ [x]) = putB (inS n l) n x true := by
  funext j
  unfold inS putB
  rw [List.any_append]
  by_cases h : (j : Int) = x ∧ j < n
  · rw [if_pos h, decide_eq_true h.2]; simp [h.1]
  · rw [if_neg h]
    by_cases hj : j < n
    · have : ¬ x = (j : Int) := fun e => h ⟨e.symm, hj⟩
      simp [this]
    · simp [hj]
theorem centolaw1_of.c {n : Int} {lp : Option Addr} {ll lc : Nat} {l : List Int} {H : Hp} {K : Option Addr → Hp → Prop} (hl : Sl (.int .i64) H lp ll lc l) (hll : l.length ≤ 1000000) (hT : Tz H)
    (hK : ∀ r q H', BR H' r q (min (max n 0) 1000).toNat (inS (min (max n 0) 1000).toNat l) → H r = none → H q = none → Le H H' → K (some ⟨r, 0, none⟩) H') : centolaw1_of.C n lp ll lc H K := by
  apply centolaw1_of.of
  have hlen := hl.len
  refine bits_New.c hT fun r q H1 u1 hr hq le1 => ?_
  generalize (min (max n 0) 1000).toNat = N at *
  refine ⟨fun i Hx => ∃ i' : Nat, i = i' ∧ i' ≤ ll ∧ Le H Hx ∧ BR Hx r q N (inS N (l.take i')), fun i _ => (ll - i).toNat, ⟨0, rfl, by omega, le1, u1.congr fun j => by simp [inS]⟩, ?_⟩
  rintro i Hx ⟨i, rfl, hi, lx, ux⟩
  refine bcd (fun h => ?_) (fun h => ?_)
  · have hil : i < l.length := by omega
    refine slI (hl.le lx) (g := fun x => x) (fun _ => rfl) (by omega) (by omega) fun _ => ?_
    simp only [Int.toNat_natCast]
    refine bits_Row_Put.c ux fun H2 u2 m2 _ => ?_
    refine chk (by omega) ⟨⟨i + 1, by omega, by omega, m2.le lx (none1 hq), ?_⟩, by first | omega | (dsimp only; omega)⟩
    rw [List.take_succ_eq_append_getElem hil, inS_snoc]; exact u2
  · rw [List.take_of_length_le (by omega)] at ux
    exact hK _ _ _ ux hr hq lx

theorem centolaw1_told.c {r q n b cc : Nat} {s : Nat → Bool} {H : Hp} {K : Bool → Hp → Prop} (hu : BR H r q n s) (hB : MB H b n s) (hK : ∀ H', Le H H' → K true H') : centolaw1_told.C (some ⟨r, 0, none⟩) (some ⟨b, 0, none⟩) n cc H K := by
  apply centolaw1_told.of
  have hlim := hu.lim
  refine bits_Row_All.c hu fun p l c H1 s1 _ le1 => ?_
  have hl := s1.len
  have hle := els_len_le s n
  refine ⟨fun k i Hx => ∃ i' : Nat, i = i' ∧ i' ≤ n ∧ H1 = Hx ∧ k = ((els s i').length : Nat), fun _ i _ => (n - i).toNat, ⟨0, rfl, by omega, rfl, rfl⟩, ?_⟩
  rintro k i _ ⟨i, rfl, hi, rfl, rfl⟩
  refine bcd (fun h => ?_) (fun h => ?_)
  · have hin : i < n := by omega
    refine idxN i rfl hin (nil (ldB_i (by rw [Nat.zero_add]; exact le1.rd (hB i hin)) ?_))
    refine bc_i (fun hs => ?_) (fun hs => ?_)
    · have hpre : ∃ rest, els s n = els s i ++ i :: rest := by
        have : ∀ d, ∃ rest, els s (i + 1 + d) = els s i ++ i :: rest := by
          intro d
          induction d with
          | zero => exact ⟨[], els_on hs⟩
          | succ d ih =>
            obtain ⟨rest, hr⟩ := ih
            cases h : s (i + 1 + d) with
            | true => exact ⟨rest ++ [i + 1 + d], by rw [← Nat.add_assoc, els_on h, hr]; simp⟩
            | false => exact ⟨rest, by rw [← Nat.add_assoc, els_off h, hr]⟩
        have := this (n - (i + 1))
        rwa [show i + 1 + (n - (i + 1)) = n by omega] at this
      obtain ⟨rest, hr⟩ := hpre
      have hkl : (els s i).length < (els s n).length := by rw [hr]; simp
      refine bcd (fun h => absurd h (by omega)) fun _ => ?_
      refine slI s1 (g := fun (x : Nat) => (x : Int)) (fun _ => rfl) (by omega) (by omega) fun hz => ?_
      have e : (els s n)[(((els s i).length : Nat) : Int).toNat]'hz = i := by
        have : ∀ (k : Nat) (hk : k < (els s n).length), k = (els s i).length → (els s n)[k] = i := fun k hk e => by
          subst e
          simp [hr]
        exact this _ hz (by simp)
      rw [e]
      refine bcd (fun h => absurd rfl h) fun _ => ?_
      refine chk (by omega) (chk (by omega) ⟨⟨i + 1, by omega, by omega, rfl, by rw [els_on hs]; simp⟩, by first | omega | (dsimp only; omega)⟩)
    · exact chk (by omega) ⟨⟨i + 1, by omega, by omega, rfl, by rw [els_off hs]⟩, by first | omega | (dsimp only; omega)⟩
  · obtain rfl : i = n := by omega
    refine bcd (fun _ => ?_) fun h => absurd (by omega) h
    refine bits_Row_Count.c (hu.le le1) fun H2 le2 => ?_
    refine bcd (fun _ => ?_) fun h => absurd rfl h
    refine bits_Row_Len.c ((hu.le le1).le le2) ?_
    rw [decide_eq_true rfl]
    exact hK _ (le1.trans le2)
def NE (a b : Nat) : Prop := a ≠ b
abbrev stepE : Enc (Int × Int × Bool × List Int) := (Enc.int .i64).pair ((Enc.int .i64).pair (Enc.bool.pair (Enc.int .i64).sl))
theorem stepAt {H : Hp} {lp : Option Addr} {ll lc : Nat} {l : List (Int × Int × Bool × List Int)} (h : stepE.rows H lp ll lc l) {i : Nat} (hi : i < l.length) :
    ∃ b o p m c, lp = some ⟨b, o, none⟩ ∧ rd H b (o + i * 4) = some (.int .i64 l[i].1) ∧ rd H b (o + i * 4 + 1) = some (.int .i64 l[i].2.1) ∧ rd H b (o + i * 4 + 1 + 1) = some (.bool l[i].2.2.1) ∧ rd H b (o + i * 4 + 1 + 1 + 1) = some (.slice p m c) ∧
      Sl (.int .i64) H p m c l[i].2.2.2 := by
  obtain ⟨b, o, hp⟩ := h.2.2.2.1 (by have := h.1; have := h.2.1; omega)
  obtain ⟨cs, h2, h3⟩ := h.2.2.2.2 b o hp i hi
  obtain ⟨c1, c2, e1, r1, d1, d2, e2, r2, f1, f2, e3, r3, r4⟩ := h2
  obtain ⟨p, m, c, e4, hs⟩ := r4
  have g1 : c1 = _ := (show _ ∧ _ from r1).1
  have g2 : d1 = _ := (show _ ∧ _ from r2).1
  have g3 : f1 = _ := r3
  have hcs : cs = [.int .i64 l[i].1, .int .i64 l[i].2.1, .bool l[i].2.2.1, .slice p m c] := by rw [e1, e2, e3, g1, g2, g3, e4]; rfl
  rw [hcs] at h3
  exact ⟨b, o, p, m, c, hp, h3 0 _ rfl, h3 1 _ rfl, h3 2 _ rfl, h3 3 _ rfl, hs.ints⟩
set_option maxHeartbeats 400000 in
theorem rowPlays_law {n m : Int} {lp : Option Addr} {ll lc : Nat} {l : List (Int × Int × Bool × List Int)} {H : Hp} (_ : (Lit.int .i64 n).wf = true) (hl : stepE.rows H lp ll lc l) (_ : (Lit.int .i64 m).wf = true) (hT : Tz H) :
    centolaw1_RowPlays.C n lp ll lc m H fun r H' => r = true ∧ Le H H' := by
  apply centolaw1_RowPlays.of
  have hlen := hl.1
  refine centolaw1_known.c hT fun H0 le0 => ?_
  refine bcF ?_
  refine bcd (fun _ => ⟨rfl, le0⟩) fun hll => ?_
  have k1 : centolaw1_RowPlays.k1 (fun r H' => r = true ∧ Le H H') ll lp m n H0 := by
    obtain ⟨N, hN⟩ : ∃ N : Nat, max (0 : Int) (min n 1000) = N := ⟨(max 0 (min n 1000)).toNat, by omega⟩
    obtain ⟨M, hM⟩ : ∃ M : Nat, max (0 : Int) (min m 1000) = M := ⟨(max 0 (min m 1000)).toNat, by omega⟩
    unfold centolaw1_RowPlays.k1
    refine bits_New.c (hT.le le0) fun r q H1 u1 hr hq le1 => ?_
    rw [show (min (max n 0) 1000).toNat = N by omega] at u1
    rw [hN]
    refine mk rfl (by omega) (by omega) ?_
    intro b18 hb18
    have le2 : Le H1 (upd H1 b18 (rep N [.bool false])) := .upd hb18
    have m2 : MB (upd H1 b18 (rep N [.bool false])) b18 N (fun _ => false) := fun x hx => rd_rep hx
    have t18 : upd H1 b18 (rep N [.bool false]) b18 ≠ none := by unfold upd; rw [if_pos rfl]; intro e; cases e
    generalize upd H1 b18 (rep N [.bool false]) = H3 at *
    have u3 := u1.le le2
    have le03 := (le0.trans le1).trans le2
    have n1 : NE r b18 := ne_of_none u1.hr hb18
    have n2 : NE q b18 := ne_of_none u1.hq hb18
    have n3 : NE gTab b18 := ne_of_none u1.tz.there hb18
    have fO : ∀ x ∈ [q, b18], H x = none := fun x hx => by
      simp only [List.mem_cons, List.not_mem_nil, or_false] at hx
      rcases hx with rfl | rfl
      · exact none_of_le le0 hq
      · exact none_of_le (le0.trans le1) hb18
    refine ⟨fun i Hx => ∃ (i' : Nat) (s : Nat → Bool), i = i' ∧ i' ≤ ll ∧ Mod [q, b18] H3 Hx ∧ Hx b18 ≠ none ∧ BR Hx r q N s ∧ MB Hx b18 N s, fun i _ => (ll - i).toNat, ⟨0, fun _ => false, rfl, by omega, .refl, t18, u3, m2⟩, ?_⟩
    rintro i Hx ⟨i, s, rfl, hi, mx, tx, ux, hin⟩
    have leX : Le H Hx := mx.le le03 fO
    refine bcd (fun h => ?_) (fun h => ?_)
    · have hil : i < l.length := by omega
      obtain ⟨b, o, p, mm, c, hp, g1, g2, g3, g4, hs⟩ := stepAt (hl.le leX) hil
      generalize l[i].1 = what at *
      generalize l[i].2.1 = at' at *
      generalize l[i].2.2.1 = on at *
      generalize l[i].2.2.2 = xs at *
      refine idxN i rfl (by omega) ?_
      rw [hp]
      refine nil ?_
      refine ldI_i g1 (ldI_i g2 (ldB_i g3 (ldL_i g4 ?_)))
      intro b33 hb33
      refine ST_upd rfl (ST_upd rfl (ST_upd rfl (ST_upd rfl ?_)))
      have le4 : Le Hx (upd Hx b33 [.int .i64 what, .int .i64 at', .bool on, .slice p mm c]) := .upd hb33
      have q0 : rd (upd Hx b33 [.int .i64 what, .int .i64 at', .bool on, .slice p mm c]) b33 0 = some (.int .i64 what) := by rw [rd_upd_self]; rfl
      have q1 : rd (upd Hx b33 [.int .i64 what, .int .i64 at', .bool on, .slice p mm c]) b33 1 = some (.int .i64 at') := by rw [rd_upd_self]; rfl
      have q2 : rd (upd Hx b33 [.int .i64 what, .int .i64 at', .bool on, .slice p mm c]) b33 2 = some (.bool on) := by rw [rd_upd_self]; rfl
      have q3 : rd (upd Hx b33 [.int .i64 what, .int .i64 at', .bool on, .slice p mm c]) b33 3 = some (.slice p mm c) := by rw [rd_upd_self]; rfl
      simp only [List.set_cons_zero, List.set_cons_succ]
      generalize upd Hx b33 [.int .i64 what, .int .i64 at', .bool on, .slice p mm c] = H4 at *
      refine ldL_i q3 ?_
      have hml := hs.len
      refine bcd (fun _ => ⟨by trivial, leX.trans le4⟩) fun hm40 => ?_
      refine bits_Row_Copy.c (ux.le le4) fun rc qc H5 u5 hrc hqc le5 => ?_
      refine ldL_i (le5.rd q3) ?_
      have le45 := le4.trans le5
      refine centolaw1_of.c (hs.le le45) (by omega) u5.tz fun ro qo H6 u6 hro hqo le6 => ?_
      rw [show (min (max m 0) 1000).toNat = M by omega] at u6
      rw [hM]
      refine mk (n := max N M) (by omega) (by omega) (by omega) ?_
      intro b57 hb57
      have le7 : Le H6 (upd H6 b57 (rep (max N M) [.bool false])) := .upd hb57
      have m7 : MB (upd H6 b57 (rep (max N M) [.bool false])) b57 (max N M) (fun _ => false) := fun x hx => rd_rep hx
      have t57 : upd H6 b57 (rep (max N M) [.bool false]) b57 ≠ none := by unfold upd; rw [if_pos rfl]; intro e; cases e
      generalize upd H6 b57 (rep (max N M) [.bool false]) = H7 at *
      have leX7 : Le Hx H7 := (le45.trans le6).trans le7
      have le57 : Le H5 H7 := le6.trans le7
      have f57 : Hx b57 = none := none_of_le (le45.trans le6) hb57
      have x1 : NE r b57 := ne_of_none ux.hr f57
      have x2 : NE q b57 := ne_of_none ux.hq f57
      have x3 : NE gTab b57 := ne_of_none ux.tz.there f57
      have x4 : NE b18 b57 := ne_of_none tx f57
      have x5 : NE rc b57 := ne_of_none u5.hr (none_of_le le6 hb57)
      have x6 : NE qc b57 := ne_of_none u5.hq (none_of_le le6 hb57)
      have x7 : NE ro b57 := ne_of_none u6.hr hb57
      have x8 : NE qo b57 := ne_of_none u6.hq hb57
      have x9 : NE b33 b57 := ne_of_none (ne_none_of_rd q0) (none_of_le (le5.trans le6) hb57)
      have y1 : NE q rc := ne_of_none ux.hq (none_of_le le4 hrc)
      have y2 : NE q qc := ne_of_none ux.hq (none_of_le le4 hqc)
      have y3 : NE b18 rc := ne_of_none tx (none_of_le le4 hrc)
      have y4 : NE b18 qc := ne_of_none tx (none_of_le le4 hqc)
      have y5 : NE q ro := ne_of_none ux.hq (none_of_le le45 hro)
      have y6 : NE q qo := ne_of_none ux.hq (none_of_le le45 hqo)
      have y7 : NE b18 ro := ne_of_none tx (none_of_le le45 hro)
      have y8 : NE b18 qo := ne_of_none tx (none_of_le le45 hqo)
      have z1 : NE q b33 := ne_of_none ux.hq hb33
      have z2 : NE b18 b33 := ne_of_none tx hb33
      have z3 : NE r qc := ne_of_none ux.hr (none_of_le le4 hqc)
      have z4 : NE b33 qc := ne_of_none (ne_none_of_rd q0) hqc
      have gq : NE q gTab := ux.gq
      have rq : NE r q := ux.rq
      have w7 : ∀ v, rd H4 b33 v = rd H7 b33 v := fun v => by
        have e : H7 b33 = H4 b33 := eq_of_le ((le5.trans le6).trans le7) (ne_none_of_rd q0)
        exact (rd_eq e).symm
      rw [w7] at q0 q1 q2 q3
      have u7 := ux.le leX7
      have c7 := u5.le le57
      have o7 := u6.le le7
      have in7 := hin.le leX7
      have s7 := hs.le leX7
      have leH7 := leX.trans leX7
      -- behind a step
      have k4 : ∀ s' H', Mod [q, b18, b57] H7 H' → H' b18 ≠ none → BR H' r q N s' → MB H' b18 N s' → centolaw1_RowPlays.k4 Hx (fun i Hx => ∃ (i' : Nat) (s : Nat → Bool), i = i' ∧ i' ≤ ll ∧ Mod [q, b18] H3 Hx ∧ Hx b18 ≠ none ∧ BR Hx r q N s ∧ MB Hx b18 N s) (fun r H' => r = true ∧ Le H H') b18 b33 i N (fun i _ => (ll - i).toNat) n N (some ⟨r, 0, none⟩) (some ⟨rc, 0, none⟩) H' := by
        intro s' H' mH tH uH hI
        unfold centolaw1_RowPlays.k4
        have cH := c7.mod mH (by simp; exact ⟨fun e => y1 e.symm, fun e => y3 e.symm, x5⟩) (by simp; exact ⟨fun e => y2 e.symm, fun e => y4 e.symm, x6⟩) (by simp; exact ⟨fun e => gq e.symm, n3, x3⟩)
        refine bits_Row_Put.c cH fun H8 _ m8 _ => ?_
        have u8 := uH.mod m8 (by simp; exact z3) (by simp; exact y2) (by simp; exact fun e => cH.gq e.symm)
        have i8 := hI.mod m8 (by simp; exact y4)
        have r8 : rd H8 b33 1 = some (.int .i64 at') := m8.rd (by simp; exact z4) (mH.rd (by simp; exact ⟨fun e => z1 e.symm, fun e => z2 e.symm, x9⟩) q1)
        have mX8 : Mod [q, b18] Hx H8 := by
          have h1 : Mod [q, b18, b57, qc] H7 H8 := (mH.mono (by simp)).trans (m8.mono (by simp))
          exact (h1.after leX7).drop fun x hx => by
            simp only [List.mem_cons, List.not_mem_nil, or_false] at hx
            rcases hx with rfl | rfl | rfl | rfl
            · exact .inl (by simp)
            · exact .inl (by simp)
            · exact .inr f57
            · exact .inr (none_of_le le4 hqc)
        have t8 : H8 b18 ≠ none := by
          rw [eq_of_mod m8 (by simp; exact y4) tH]; exact tH
        refine centolaw1_told.c u8 i8 fun H9 le9 => ?_
        refine bcF ?_
        have u9 := u8.le le9
        have r9 := le9.rd r8
        have i9 := i8.le le9
        refine ldI_i r9 (ldI_i r9 ?_)
        refine bits_Row_Has.c u9 ?_
        refine ⟨r9, ?_⟩
        have fin : CHK .i64 ((i : Int) + 1) fun x => (∃ (i' : Nat) (s : Nat → Bool), x = i' ∧ i' ≤ ll ∧ Mod [q, b18] H3 H9 ∧ H9 b18 ≠ none ∧ BR H9 r q N s ∧ MB H9 b18 N s) ∧ (ll - x).toNat < (ll - (i : Int)).toNat :=
          chk (by omega) ⟨⟨i + 1, s', by omega, by omega, (mx.trans mX8).andLe le9, by rw [eq_of_le le9 t8]; exact t8, u9, i9⟩, by omega⟩
        refine bcd (fun h0 => ?_) (fun h0 => ?_)
        · refine ldI_i r9 ?_
          rw [hN]
          obtain ⟨a, rfl⟩ : ∃ a : Nat, at' = a := ⟨at'.toNat, by omega⟩
          rw [hasB_nat]
          refine bcd (fun h1 => ?_) (fun h1 => ?_)
          · refine ldI_i r9 (idxN a rfl (by omega) (ldB_i (by rw [Nat.zero_add]; exact i9 a (by omega)) ?_))
            exact bcd (fun h => absurd rfl h) fun _ => fin
          · have : s' a = false := u9.out a (by omega)
            rw [this]
            exact bcd (fun h => absurd rfl h) fun _ => fin
        · have : hasB s' at' = false := by unfold hasB; rw [decide_eq_false h0]; rfl
          rw [this]
          exact bcd (fun h => absurd rfl h) fun _ => fin
      -- the marks
      refine ⟨fun k Hy => ∃ k' : Nat, k = k' ∧ k' ≤ mm ∧ Mod [b57] H7 Hy ∧ MB Hy b57 (max N M) (inS M (xs.take k')), fun k _ => (mm - k).toNat, ⟨0, rfl, by omega, .refl, fun x hx => by rw [m7 x hx]; simp [inS]⟩, ?_⟩
      rintro k Hy ⟨k, rfl, hk, my, wy⟩
      have y33 : ∀ {o v}, rd H7 b33 o = some v → rd Hy b33 o = some v := fun h => my.rd (by simp; exact x9) h
      have sy : Sl (.int .i64) Hy p mm c xs := by
        have : Le Hx Hy := my.le leX7 (none1 f57)
        exact (hs.le this)
      refine ldL_i (y33 q3) ?_
      refine bcd (fun h => ?_) (fun h => ?_)
      · have hkx : k < xs.length := by omega
        have hts := List.take_succ_eq_append_getElem hkx
        have k2 : ∀ v, v = decide (0 ≤ xs[k] ∧ xs[k] < (M : Int)) → centolaw1_RowPlays.k2 Hy (fun k Hy => ∃ k' : Nat, k = k' ∧ k' ≤ mm ∧ Mod [b57] H7 Hy ∧ MB Hy b57 (max N M) (inS M (xs.take k'))) b33 b57 k (fun k _ => (mm - k).toNat) (max N M) v Hy := by
          intro v hv
          unfold centolaw1_RowPlays.k2
          cases v with
          | true =>
            have hb := of_decide_eq_true hv.symm
            obtain ⟨x, hx⟩ : ∃ x : Nat, xs[k] = x := ⟨xs[k].toNat, by omega⟩
            refine bcT (ldL_i (y33 q3) ?_)
            refine slI sy (g := fun x => x) (fun _ => rfl) (by omega) (by omega) fun _ => ?_
            simp only [Int.toNat_natCast]
            refine idxN x hx (by omega) (st0 (wy x (by omega)) (chk (by omega) ⟨⟨k + 1, by omega, by omega, my.wr (.inl (by simp)), ?_⟩, by first | omega | (dsimp only; omega)⟩))
            refine wy.put (by omega) fun y hy => ?_
            rw [hts, inS_snoc, hx, putB_nat]
            by_cases e : y = x
            · rw [if_pos ⟨e, by omega⟩, if_pos e]
            · rw [if_neg fun g => e g.1, if_neg e]
          | false =>
            have hb := of_decide_eq_false hv.symm
            refine bcF (chk (by omega) ⟨⟨k + 1, by omega, by omega, my, fun y hy => ?_⟩, by first | omega | (dsimp only; omega)⟩)
            rw [wy y hy, hts, inS_snoc]
            unfold putB
            rw [if_neg fun g => hb ⟨by omega, by omega⟩]
        refine ldL_i (y33 q3) ?_
        refine slI sy (g := fun x => x) (fun _ => rfl) (by omega) (by omega) fun _ => ?_
        simp only [Int.toNat_natCast]
        refine bcd (fun h1 => ?_) (fun h1 => k2 false (decide_eq_false fun g => h1 g.1).symm)
        refine ldL_i (y33 q3) ?_
        refine slI sy (g := fun x => x) (fun _ => rfl) (by omega) (by omega) fun _ => ?_
        simp only [Int.toNat_natCast]
        exact k2 _ (decide_eq_decide.2 ⟨fun g => ⟨h1, g⟩, fun g => g.2⟩)
      · rw [List.take_of_length_le (by omega)] at wy
        have leXy : Le Hx Hy := my.le leX7 (none1 f57)
        have uy := ux.le leXy
        have iy := hin.le leXy
        have ty : Hy b18 ≠ none := by rw [eq_of_le leXy tx]; exact tx
        have oy := o7.mod my (by simp; exact x7) (by simp; exact x8) (by simp; exact x3)
        generalize inS M xs = tt at *
        have m3 : Mod [q, b18, b57] H7 Hy := my.mono (by simp)
        refine ldI_i (y33 q0) ?_
        refine bcd (fun hw => ?_) (fun hw => ?_)
        · refine ldI_i (y33 q1) (ldB_i (y33 q2) ?_)
          refine bits_Row_Put.c uy fun H8 u8 m8 _ => ?_
          have i8 := iy.mod m8 (by simp; exact fun e => n2 e.symm)
          have t8 : H8 b18 ≠ none := by rw [eq_of_mod m8 (by simp; exact fun e => n2 e.symm) ty]; exact ty
          have r8 : ∀ {o v}, rd Hy b33 o = some v → rd H8 b33 o = some v := fun h => m8.rd (by simp; exact fun e => z1 e.symm) h
          have m38 : Mod [q, b18, b57] H7 H8 := m3.trans (m8.mono (by simp))
          have out : ¬ (0 ≤ at' ∧ at' < (N : Int)) → centolaw1_RowPlays.k4 Hx (fun i Hx => ∃ (i' : Nat) (s : Nat → Bool), i = i' ∧ i' ≤ ll ∧ Mod [q, b18] H3 Hx ∧ Hx b18 ≠ none ∧ BR Hx r q N s ∧ MB Hx b18 N s) (fun r H' => r = true ∧ Le H H') b18 b33 i N (fun i _ => (ll - i).toNat) n N (some ⟨r, 0, none⟩) (some ⟨rc, 0, none⟩) H8 := fun h =>
            k4 _ _ m38 t8 u8 fun x hx => by
              rw [i8 x hx]; unfold putB; rw [if_neg fun g => h ⟨by omega, by omega⟩]
          unfold centolaw1_RowPlays.k3
          refine ldI_i (r8 (y33 q1)) ?_
          refine bcd (fun h0 => ?_) (fun h0 => bcF (out fun g => h0 g.1))
          refine ldI_i (r8 (y33 q1)) ?_
          refine bcd (fun h1 => ?_) (fun h1 => out fun g => h1 g.2)
          obtain ⟨a, rfl⟩ : ∃ a : Nat, at' = a := ⟨at'.toNat, by omega⟩
          refine ldI_i (r8 (y33 q1)) (ldB_i (r8 (y33 q2)) (idxN a rfl (by omega) (st0 (i8 a (by omega)) ?_)))
          have mw : Mod [b18] H8 (wr H8 b18 a (.bool on)) := Mod.refl.wr (.inl (by simp))
          refine k4 _ _ (m38.wr (.inl (by simp))) (ne_none_of_rd (rd_wr_self (i8 a (by omega)))) (u8.mod mw (by simp; exact n1) (by simp; exact n2) (by simp; exact n3)) (i8.put (by omega) fun y hy => ?_)
          rw [putB_nat]
          by_cases e : y = a
          · rw [if_pos ⟨e, hy⟩, if_pos e]
          · rw [if_neg fun g => e g.1, if_neg e]
        · refine ldI_i (y33 q0) ?_
          refine bcd (fun hw3 => ?_) (fun hw3 => ?_)
          · refine ⟨fun grew k Hz => ∃ k' : Nat, k = k' ∧ k' ≤ N ∧ Mod [b18] Hy Hz ∧ Hz b18 ≠ none ∧ MB Hz b18 N (fun x => if x < k' then s x || tt x else s x) ∧ grew = (List.range k').any fun j => tt j && !s j, fun _ k _ => (N - k).toNat, ⟨0, rfl, by omega, .refl, ty, fun x hx => by rw [iy x hx]; simp, rfl⟩, ?_⟩
            rintro grew k Hz ⟨k, rfl, hk, mz, tz, iz, hgr⟩
            refine bcd (fun h => ?_) (fun h => ?_)
            · have hkN : k < N := by omega
              have wz := wy.mod mz (by simp; exact fun e => x4 e.symm)
              have any_succ : (List.range (k + 1)).any (fun j => tt j && !s j) = (grew || (tt k && !s k)) := by rw [List.range_succ, List.any_append, hgr]; simp
              have izk : rd Hz b18 k = some (.bool (s k)) := by have := iz k hkN; simpa using this
              have k5 : ∀ g, g = (List.range (k + 1)).any (fun j => tt j && !s j) → centolaw1_RowPlays.k5 Hz (fun grew k Hz => ∃ k' : Nat, k = k' ∧ k' ≤ N ∧ Mod [b18] Hy Hz ∧ Hz b18 ≠ none ∧ MB Hz b18 N (fun x => if x < k' then s x || tt x else s x) ∧ grew = (List.range k').any fun j => tt j && !s j) b18 b57 grew k (fun _ k _ => (N - k).toNat) N (max N M) g Hz := by
                intro g hg
                unfold centolaw1_RowPlays.k5
                have stp : ∀ v, v = (s k || tt k) → ∀ y, y < N → (if y < k + 1 then s y || tt y else s y) = if y = k then v else (if y < k then s y || tt y else s y) := fun v hv y hy => by
                  by_cases e : y = k
                  · subst e; rw [if_pos (by omega), if_pos rfl, hv]
                  · rw [if_neg e]
                    by_cases h : y < k
                    · rw [if_pos h, if_pos (by omega)]
                    · rw [if_neg h, if_neg (by omega)]
                have inv : ∀ v : Bool, v = (s k || tt k) → MB (wr Hz b18 k (.bool v)) b18 N (fun x => if x < k + 1 then s x || tt x else s x) := fun v hv => MB.put (s' := fun x => if x < k + 1 then s x || tt x else s x) iz hkN fun y hy => stp v hv y hy
                have th : ∀ v : Bool, wr Hz b18 k (.bool v) b18 ≠ none := fun v => ne_none_of_rd (rd_wr_self (v := .bool v) izk)
                have mm' : ∀ v : Bool, Mod [b18] Hy (wr Hz b18 k (.bool v)) := fun v => mz.wr (.inl (by simp))
                refine idxN k rfl hkN (ldB_i (by rw [Nat.zero_add]; exact izk) ?_)
                refine bc_i (fun hs' => ?_) (fun hs' => ?_)
                · refine idxN k rfl hkN ?_
                  refine st0 izk ?_
                  refine chk (by omega) ?_
                  refine ⟨⟨k + 1, by omega, by omega, mm' true, th true, inv true (by rw [hs']; rfl), hg⟩, by first | omega | (dsimp only; omega)⟩
                · refine idxN k rfl (by omega) (ldB_i (by rw [Nat.zero_add]; exact wz k (by omega)) ?_)
                  refine idxN k rfl hkN ?_
                  refine st0 izk ?_
                  refine chk (by omega) ?_
                  refine ⟨⟨k + 1, by omega, by omega, mm' (tt k), th (tt k), inv (tt k) (by rw [hs']; rfl), hg⟩, by first | omega | (dsimp only; omega)⟩
              refine bc_i (fun hg => k5 true (by rw [any_succ, hg]; rfl)) (fun hg => ?_)
              refine idxN k rfl (by omega) (ldB_i (by rw [Nat.zero_add]; exact wz k (by omega)) ?_)
              refine bc_i (fun ht => ?_) (fun ht => k5 false (by rw [any_succ, hg, ht]; rfl))
              refine idxN k rfl hkN (ldB_i (by rw [Nat.zero_add]; exact izk) ?_)
              exact k5 _ (by rw [any_succ, hg, ht]; simp)
            · obtain rfl : k = N := by omega
              have uz := uy.mod mz (by simp; exact n1) (by simp; exact n2) (by simp; exact n3)
              have oz := oy.mod mz (by simp; exact fun e => y7 e.symm) (by simp; exact fun e => y8 e.symm) (by simp; exact n3)
              refine bits_Row_Or.c uz oz (by simp; exact fun e => y6 e.symm) fun H8 u8 m8 => ?_
              have eg : grewB s tt k k = grew := by
                rw [hgr]; unfold grewB
                rw [Bool.eq_iff_iff, List.any_eq_true, List.any_eq_true]
                constructor
                · rintro ⟨x, hx, h⟩; simp at h hx; exact ⟨x, by simpa using hx, by simp [h]⟩
                · rintro ⟨x, hx, h⟩; simp at h hx; exact ⟨x, by simpa using hx, by simp [h, hx]⟩
              refine bcd (fun h => absurd eg h) fun _ => ?_
              refine k4 _ _ ((m3.trans (mz.mono (by simp))).trans (m8.mono (by simp))) (by rw [eq_of_mod m8 (by simp; exact fun e => n2 e.symm) tz]; exact tz) u8 fun x hx => ?_
              rw [(iz.mod m8 (by simp; exact fun e => n2 e.symm)) x hx]
              unfold orB; simp [hx]
          · refine bits_Row_And.c uy oy (by simp; exact fun e => y5 e.symm) (by simp; exact fun e => y6 e.symm) fun H8 u8 m8 => ?_
            have i8 := iy.mod m8 (by simp; exact fun e => n2 e.symm)
            have w8 := wy.mod m8 (by simp; exact fun e => x2 e.symm)
            have t8 : H8 b18 ≠ none := by rw [eq_of_mod m8 (by simp; exact fun e => n2 e.symm) ty]; exact ty
            refine ⟨fun k Hz => ∃ k' : Nat, k = k' ∧ k' ≤ N ∧ Mod [b18] H8 Hz ∧ Hz b18 ≠ none ∧ MB Hz b18 N (fun x => if x < k' then s x && tt x else s x), fun k _ => (N - k).toNat, ⟨0, rfl, by omega, .refl, t8, fun x hx => by rw [i8 x hx]; simp⟩, ?_⟩
            rintro k Hz ⟨k, rfl, hk, mz, tz, iz⟩
            refine bcd (fun h => ?_) (fun h => ?_)
            · have hkN : k < N := by omega
              have wz := w8.mod mz (by simp; exact fun e => x4 e.symm)
              have izk : rd Hz b18 k = some (.bool (s k)) := by have := iz k hkN; simpa using this
              have stp : ∀ v, v = (s k && tt k) → ∀ y, y < N → (if y < k + 1 then s y && tt y else s y) = if y = k then v else (if y < k then s y && tt y else s y) := fun v hv y hy => by
                by_cases e : y = k
                · subst e; rw [if_pos (by omega), if_pos rfl, hv]
                · rw [if_neg e]
                  by_cases h : y < k
                  · rw [if_pos h, if_pos (by omega)]
                  · rw [if_neg h, if_neg (by omega)]
              have inv : ∀ v : Bool, v = (s k && tt k) → MB (wr Hz b18 k (.bool v)) b18 N (fun x => if x < k + 1 then s x && tt x else s x) := fun v hv => MB.put (s' := fun x => if x < k + 1 then s x && tt x else s x) iz hkN fun y hy => stp v hv y hy
              have th : ∀ v : Bool, wr Hz b18 k (.bool v) b18 ≠ none := fun v => ne_none_of_rd (rd_wr_self (v := .bool v) izk)
              have mm' : ∀ v : Bool, Mod [b18] H8 (wr Hz b18 k (.bool v)) := fun v => mz.wr (.inl (by simp))
              refine idxN k rfl hkN (ldB_i (by rw [Nat.zero_add]; exact izk) ?_)
              refine bc_i (fun hs' => ?_) (fun hs' => ?_)
              · refine idxN k rfl (by omega) (ldB_i (by rw [Nat.zero_add]; exact wz k (by omega)) ?_)
                refine idxN k rfl hkN ?_
                refine st0 izk ?_
                refine chk (by omega) ?_
                refine ⟨⟨k + 1, by omega, by omega, mm' (tt k), th (tt k), inv (tt k) (by rw [hs']; rfl)⟩, by first | omega | (dsimp only; omega)⟩
              · refine idxN k rfl hkN ?_
                refine st0 izk ?_
                refine chk (by omega) ?_
                refine ⟨⟨k + 1, by omega, by omega, mm' false, th false, inv false (by rw [hs']; rfl)⟩, by first | omega | (dsimp only; omega)⟩
            · obtain rfl : k = N := by omega
              refine k4 _ _ ((m3.trans (m8.mono (by simp))).trans (mz.mono (by simp))) tz (u8.mod mz (by simp; exact n1) (by simp; exact n2) (by simp; exact n3)) fun x hx => ?_
              rw [iz x hx]; simp [hx]
    · refine bits_Row_Copy.c ux fun rc qc H5 u5 hrc hqc le5 => ?_
      refine bits_Row_Same.c (ux.le le5) u5 ?_
      have : sameB s s N = true := sameB_iff.2 fun _ _ => rfl
      rw [decide_eq_true rfl, this]
      exact ⟨rfl, leX.trans le5⟩
  exact bcd (fun _ => bcd (fun _ => ⟨rfl, le0⟩) fun _ => bcd (fun _ => bcd (fun _ => ⟨rfl, le0⟩) fun _ => k1) fun _ => k1) fun _ => bcd (fun _ => bcd (fun _ => ⟨rfl, le0⟩) fun _ => k1) fun _ => k1

set_option maxRecDepth 100000 in
theorem rowPlays_lifted (os : Os) (started : os.Started) (H : Type) (enc : TypeId × Value → H) :
    ReturnsInHanded {} Tryd.checked os 4 .any (fun w args => (Rows.rowPlaysSpec.pre enc Tryd.prog Tryd.f4 [] false w args ∧ laidMetH Tryd.prog laidTz w) ∧ sizedMet enc Tryd.prog Tryd.f4 (OpenSpec.ofChange Rows.rowPlaysSpec) false w args)
      (Rows.rowPlaysSpec.post enc Tryd.prog Tryd.f4 false true false false) := by
  refine returnsInHanded_of_change_and (C := Tryd.checked) (X := fun w _ => laidMetH Tryd.prog laidTz w) (fun _ _ _ hh h => h.of_heap hh) Tryd.own started (by kernel_rfl) Tryd.func4
    (ChangeSpec.witness_shaped (enc := enc) (C := Tryd.checked) (os := os) (X := fun w _ => laidMetH Tryd.prog laidTz w) false (World.doorLaid Tryd.prog 400 os) #[.int .i64 0, .slice Option.none 0 0, .int .i64 0] 8 rfl (World.shaped_of_RefB (by kernel_rfl) (by kernel_rfl)) (by kernel_rfl) (by kernel_rfl) (by kernel_rfl) (door_met os _)) ?_
  intro W base args ds gs before hval0 hW _ _ hL _
  have hval : ∀ (j : Nat) t v, Tryd.f4.params[j]? = some t → args[j]? = some v → Value.okWide Tryd.prog W .any base t v := hval0
  have hW' := hW
  obtain ⟨p, q, hA0, hV, rfl, hfz, hnd⟩ := hW
  have hA : DataW.TrodAll enc Tryd.prog W 0 (fun _ => true) true Tryd.f4.params.toList args.toList ds p := hA0
  rw [Tryd.params4] at hA hval
  obtain ⟨v0, v1, v2, d0, d1, d2, p0, p1, p2, rfl, rfl, rfl, h0, h1, h2⟩ := trodAll_three hA
  obtain ⟨x0, rfl, rfl, rfl, w0⟩ := open_int Tryd.underlying3 (hval 0 3 v0 rfl rfl) h0
  obtain ⟨q1, l1, c1, x1, rfl, s1⟩ := openSl (by decide) Tryd.underlying30 (opens_st Tryd.underlying34 (by kernel_rfl) (opensF_cons rfl (opens_int Tryd.underlying3 (by kernel_rfl)) rfl (opensF_cons rfl (opens_int Tryd.underlying3 (by kernel_rfl)) rfl (opensF_cons rfl (opens_bool Tryd.underlying4 (by kernel_rfl)) rfl (opensF_one rfl (opens_sl (by decide) Tryd.underlying32 (by kernel_rfl) (opens_int Tryd.underlying3 (by kernel_rfl)))))))) (hval 1 30 v1 rfl rfl) h1 (fun x hx => by simp [hx]) hfz
  obtain ⟨x2, rfl, rfl, rfl, w2⟩ := open_int Tryd.underlying3 (hval 2 3 v2 rfl rfl) h2
  refine (calls_true (CallH.true (rowPlays_law w0 s1 w2 (tz_of_laid hL)))).mono fun e W' ⟨he, hk⟩ => ?_
  subst he
  exact ⟨_, rfl, post_true Tryd.laidOut hW' (by kernel_rfl) rfl rfl rfl Tryd.underlying4 hk⟩

theorem rowPlays_row : Rows.RowPlaysSaid :=
  OpenClaim.holds_of_wide 4 Tryd.f4 rfl rfl rfl rfl rfl rfl rfl ⟨rfl, rfl, rfl, rfl, rfl⟩ rfl rfl rfl rfl rfl (by kernel_rfl) Tryd.func4 (by kernel_rfl)
    (of_decide_eq_true (by kernel_rfl)) (by unfold Func.isWrapper; first | (rw [if_pos (by decide +kernel)]; kernel_rfl) | (rw [if_neg (by decide +kernel)]; exact ⟨rfl, rfl⟩))
    (fun os started H enc _ => rowPlays_lifted os started H enc)

theorem rowPlays_card : Rows.RowPlaysCardSaid :=
  Claim7.holds_tied_plain_at .later [] [.data] true (true, "9e9ba44d933a7f20e0284c36fd5894acf154f0b9efcc9541d1835b2630e191a8") false
    rowPlays_row (fun _ h => by cases h) (by kernel_rfl) (fun _ h => by cases h) rowPlays_row_tie rfl ⟨rfl, rfl⟩ (by kernel_rfl) rfl
    (fun f fn hf hfn => by
      obtain rfl : f = 4 := Option.some.inj ((show Tryd.prog.funcNamed Rows.rowPlaysRow.func = some 4 by kernel_rfl).symm.trans hf) |>.symm
      obtain rfl : fn = Tryd.f4 := (Option.some.inj (Tryd.func4.symm.trans hfn)).symm
      exact ⟨by kernel_rfl, fun j t ht => by
        rw [Tryd.params4] at ht
        have hm : t ∈ [3, 30] := by
          have := Array.mem_of_getElem? ht
          simp at this
          first | (rcases this with rfl | rfl | rfl <;> simp) | simp [this]
        have hall : ([3, 30].all fun u => !Tryd.prog.wantsStandIn u) = true := by kernel_rfl
        exact (show Tryd.prog.wantsStandIn t = false by simpa using List.all_eq_true.1 hall t hm)⟩)
    (by kernel_rfl)
end Go.Proofs.YtimgnhleaekmhaaDoor
