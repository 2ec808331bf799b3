/- Contracts and plain laws that the claim rests on, for every input: no condition. -/
import Derived.Test.YtganockeifkecaaZ4
namespace Go.Proofs.Ytganockeifkecaa
open Go.V
section
variable {H : Hp} {id : Int} {dp mp qp hp : Option Addr} {dl dc ml mc ql qc hl hc : Nat} {x : Pt}
theorem patch_Copy.c {K : Int → Option Addr → Nat → Nat → Option Addr → Nat → Nat → Option Addr → Nat → Nat → Option Addr → Nat → Nat → Hp → Prop} (h : PtS H id dp dl dc mp ml mc qp ql qc hp hl hc x) (hs : PtSm x)
    (hK : ∀ p1 c1 p2 c2 p3 c3 p4 c4 zs H', Le H H' → Own H H' x.id p1 dl c1 p2 ml c2 p3 ql c3 p4 hl c4 x zs → K x.id p1 dl c1 p2 ml c2 p3 ql c3 p4 hl c4 H') : patch_Copy.C id dp dl dc mp ml mc qp ql qc hp hl hc H K := by
  apply patch_Copy.of
  intro b hb
  have l1 := Le.upd (c := [.int .u32 id, .slice dp dl dc, .slice mp ml mc, .slice qp ql qc, .slice hp hl hc]) hb
  have d := D5.new (H := H) (b := b) (id := id) (dp := dp) (dl := dl) (dc := dc) (mp := mp) (ml := ml) (mc := mc) (qp := qp) (ql := ql) (qc := qc) (hp := hp) (hl := hl) (hc := hc)
  revert l1 d
  generalize upd H b [.int .u32 id, .slice dp dl dc, .slice mp ml mc, .slice qp ql qc, .slice hp hl hc] = H1
  intro l1 d
  have d0 := d
  obtain ⟨rfl, hd, hm, hq, hh⟩ := h
  intro b2 hb2
  have l2 := Le.upd (c := [.int .u32 (0 : Int), .slice none 0 0, .slice none 0 0, .slice none 0 0, .slice none 0 0]) hb2
  have e2 := D5.new (H := H1) (b := b2) (id := (0 : Int)) (dp := none) (dl := 0) (dc := 0) (mp := none) (ml := 0) (mc := 0) (qp := none) (ql := 0) (qc := 0) (hp := none) (hl := 0) (hc := 0)
  revert l2 e2
  generalize upd H1 b2 [.int .u32 (0 : Int), .slice none 0 0, .slice none 0 0, .slice none 0 0, .slice none 0 0] = H2
  intro l2 e2
  have d := d.le l2
  have l02 := l1.trans l2
  have sd := hs.deps
  have sm := hs.makes
  have sq := hs.drops
  have sh := hs.hunks
  have ed := hd.len
  have em := hm.len
  have eq := hq.len
  have eh := hh.1
  have ok2 : Ok H2 [some ⟨b, 0, none⟩, some ⟨b2, 0, none⟩] := by
    refine ⟨?_, fun q hq' b' o e => ?_⟩
    · refine List.pairwise_cons.2 ⟨fun a ha => ?_, by simp⟩
      simp at ha; subst ha
      intro b' o o' f g
      simp only [Option.some.injEq, Addr.mk.injEq] at f g
      obtain ⟨rfl, _⟩ := f
      obtain ⟨rfl, _⟩ := g
      exact d.there (by have := none_of_le (Le.refl H1) hb2; exact absurd this (ne_none_of_rd (d0.1)))
    · simp at hq'
      rcases hq' with rfl | rfl
      · simp only [Option.some.injEq, Addr.mk.injEq] at e; obtain ⟨rfl, _⟩ := e; exact d.there
      · simp only [Option.some.injEq, Addr.mk.injEq] at e; obtain ⟨rfl, _⟩ := e; exact e2.there
  refine ldL_i d.2.1 (ldL_i d.2.2.1 (ldL_i d.2.2.2.1 (ldL_i d.2.2.2.2 ?_)))
  refine slices_Clone_uint32_uint32.c (hd.le l02) (by omega) fun p1 c1 H3 l3 B1 => ⟨(d.le l3).2.2.2.2, (d.le l3).2.2.2.1, (d.le l3).2.2.1, ?_⟩
  have d3 := d.le l3
  have l03 := l02.trans l3
  refine slices_Clone_string_string.c (hm.le l03) (by omega) fun p2 c2 H4 l4 B2 => ⟨(d3.le l4).2.2.2.2, (d3.le l4).2.2.2.1, ?_⟩
  have d4 := d3.le l4
  have l04 := l03.trans l4
  refine slices_Clone_string_string.c (hq.le l04) (by omega) fun p3 c3 H5 l5 B3 => ⟨(d4.le l5).2.2.2.2, ?_⟩
  have d5 := d4.le l5
  have l05 := l04.trans l5
  obtain ⟨zs, hzl, hzs, hze⟩ := HkH.rows hh
  refine slices_Clone_api_Hunk_api_Hunk.c (xs := zs) (hzs.le l05) (by omega) fun p4 c4 H6 l6 B4 => ?_
  have d6 := d5.le l6
  have l06 := l05.trans l6
  have e6 := (((e2.le l3).le l4).le l5).le l6
  have ok6 : Ok H6 ([some ⟨b, 0, none⟩, some ⟨b2, 0, none⟩] ++ [p1] ++ [p2] ++ [p3] ++ [p4]) := (((ok2.snoc B1.fr (bThere B1) l3).snoc B2.fr (bThere B2) l4).snoc B3.fr (bThere B3) l5).snoc B4.fr (bThere B4) l6
  have B1 := (bBack B1 l02).le (l4.trans (l5.trans l6))
  have B2 := (bBack B2 l03).le (l5.trans l6)
  have B3 := (bBack B3 l04).le l6
  have B4 := bBack B4 l05
  have pw6 := ok6.1
  simp only [List.cons_append, List.nil_append, List.pairwise_cons] at pw6
  have a1 : ∀ q ∈ [p1, p2, p3, p4, some ⟨b2, 0, none⟩], Apart (some ⟨b, 0, none⟩) q := fun q hq' => by
    simp only [List.mem_cons, List.not_mem_nil, or_false] at hq'
    refine pw6.1 q ?_
    simp only [List.mem_cons, List.not_mem_nil, or_false]
    rcases hq' with h | h | h | h | h <;> simp [h]
  clear ok2 d d3 d4 d5 e2
  refine put4 d6 fun H7 d7 m7 w7 => ?_
  have lz : Le H H7 := m7.le l06 fun q hq' => by simp at hq'; subst hq'; exact hb
  have B1 := bModA B1 m7 (a1 _ (by simp))
  have B2 := bModA B2 m7 (a1 _ (by simp))
  have B3 := bModA B3 m7 (a1 _ (by simp))
  have B4 := bModA B4 m7 (a1 _ (by simp))
  have nb2 : b2 ∉ [b] := fun h => by
    simp at h; subst h
    exact a1 (some ⟨b2, 0, none⟩) (by simp) b2 0 0 rfl rfl
  have e7 := e6.mod m7 nb2
  have ok7 := ok6.was w7
  clear ok6 d6 e6 l06
  refine ldL_i d7.2.2.2.2 ⟨fun t Hx => ∃ (i : Nat) (ys : List (BL × HD)), t = (i : Nat) ∧ i ≤ hl ∧ Le H Hx ∧ D5 Hx b x.id p1 dl c1 p2 ml c2 p3 ql c3 p4 hl c4 ∧ D5 Hx b2 0 none 0 0 none 0 0 none 0 0 none 0 0 ∧ Buf 1 H Hx p1 dl c1 (x.deps.map fU) ∧ Buf 1 H Hx p2 ml c2 (x.makes.map sv) ∧ Buf 1 H Hx p3 ql c3 (x.drops.map sv) ∧ Buf 4 H Hx p4 hl c4 (ys.flatMap hdC) ∧ ys.length = x.hunks.length ∧
    (∀ j (h1 : j < x.hunks.length) (h2 : j < ys.length), ys[j].1 = x.hunks[j].path ∧ (j < i → OwnH H Hx x.hunks[j] ys[j].2) ∧ (i ≤ j → RdH H x.hunks[j] ys[j].2)) ∧ Ok Hx ([some ⟨b, 0, none⟩, some ⟨b2, 0, none⟩, p1, p2, p3, p4] ++ (ys.take i).flatMap hdP), fun t _ => ((hl : Int) - t).toNat,
    ⟨0, zs, rfl, Nat.zero_le _, lz, d7, e7, B1, B2, B3, B4, hzl, fun j h1 h2 => ⟨(hze j h1 h2).1, fun h => absurd h (Nat.not_lt_zero _), fun _ => (hze j h1 h2).2⟩, by simpa using ok7⟩, ?_⟩
  clear B1 B2 B3 B4 d7 e7 ok7 lz m7 w7 H7
  rintro t Hx ⟨i, ys, rfl, gi, lx, dx, ex, B1, B2, B3, B4, hyl, hy, ok⟩
  refine bcd (fun hlt => ?_) fun hlt => ?_
  · have hi : i < x.hunks.length := by omega
    have hi2 : i < ys.length := by omega
    obtain ⟨bh, rfl⟩ := B4.some_of (by omega)
    obtain ⟨f1, _, f3⟩ := hy i hi hi2
    obtain ⟨s1, s2, s3⟩ := f3 (Nat.le_refl _)
    have hsm := hs.each _ (List.getElem_mem hi)
    have ss1 := hsm.adds
    have ss2 := hsm.edges
    have ss3 := hsm.kills
    have es1 := s1.len
    have es2 := s2.len
    have es3 := s3.len
    refine rsD (B4.sn hdC_len (by decide)) rfl hi2 ?_
    refine D4.mk fun q H7 hq7 dq l7 => ?_
    have d7 := dx.le l7
    have lx7 := lx.trans l7
    refine ldL_i d7.2.2.2.2 (ldL_i d7.2.2.2.2 (ldL_i d7.2.2.2.2 (ldL_i dq.2.1 (ldL_i dq.2.2.1 (ldL_i dq.2.2.2 ?_)))))
    refine slices_Clone_string_string.c (s1.le lx7) (by omega) fun r1 k1 H8 l8 A1 => ⟨(dq.le l8).2.2.2, (dq.le l8).2.2.1, (d7.le l8).2.2.2.2, (d7.le l8).2.2.2.2, (d7.le l8).2.2.2.2, ?_⟩
    have dq := dq.le l8
    have d8 := d7.le l8
    have lx8 := lx7.trans l8
    refine slices_Clone_api_Edge_api_Edge.c (s2.le lx8) (by omega) fun r2 k2 H9 l9 A2 => ⟨(dq.le l9).2.2.2, (d8.le l9).2.2.2.2, (d8.le l9).2.2.2.2, (d8.le l9).2.2.2.2, ?_⟩
    have d9 := d8.le l9
    have lx9 := lx8.trans l9
    refine slices_Clone_api_LineID_api_LineID.c (s3.le lx9) (by omega) fun r3 k3 H10 l10 A3 => ⟨(d9.le l10).2.2.2.2, (d9.le l10).2.2.2.2, (d9.le l10).2.2.2.2, ?_⟩
    have d10 := d9.le l10
    have lx10 := lx9.trans l10
    have lt10 := ((l7.trans l8).trans l9).trans l10
    have B4' := B4.le lt10
    have ok' := ((((ok.snoc (A1.fr.le l7) (bThere A1) (l7.trans l8)).snoc A2.fr (bThere A2) l9).snoc A3.fr (bThere A3) l10))
    have pw := ok.1
    have apb : Apart (some ⟨bh, 0, none⟩) (some ⟨b, 0, none⟩) := ((List.pairwise_cons.1 pw).1 _ (by simp)).symm
    have hbb : b ∉ [bh] := fun h => by
      simp at h; subst h; exact apb b 0 0 rfl rfl
    have apb2 : Apart (some ⟨bh, 0, none⟩) (some ⟨b2, 0, none⟩) := ((List.pairwise_cons.1 (List.pairwise_cons.1 pw).2).1 _ (by simp)).symm
    have hbb2 : b2 ∉ [bh] := fun h => by
      simp at h; subst h; exact apb2 b2 0 0 rfl rfl
    have pw2 := (List.pairwise_cons.1 (List.pairwise_cons.1 pw).2).2
    have ap1 : Apart (some ⟨bh, 0, none⟩) p1 := ((List.pairwise_cons.1 pw2).1 _ (by simp)).symm
    have pw3 := (List.pairwise_cons.1 pw2).2
    have ap2 : Apart (some ⟨bh, 0, none⟩) p2 := ((List.pairwise_cons.1 pw3).1 _ (by simp)).symm
    have pw4 := (List.pairwise_cons.1 pw3).2
    have ap3 : Apart (some ⟨bh, 0, none⟩) p3 := ((List.pairwise_cons.1 pw4).1 _ (by simp)).symm
    have pw5 := (List.pairwise_cons.1 pw4).2
    have apf : ∀ q ∈ (ys.take i).flatMap hdP, Apart (some ⟨bh, 0, none⟩) q := (List.pairwise_cons.1 pw5).1
    have th4 : There Hx (some ⟨bh, 0, none⟩) := bThere B4
    have apr1 : Apart (some ⟨bh, 0, none⟩) r1 := apThere (th4.was l7.was) A1.fr
    have apr2 : Apart (some ⟨bh, 0, none⟩) r2 := apThere (th4.was (l7.trans l8).was) A2.fr
    have apr3 : Apart (some ⟨bh, 0, none⟩) r3 := apThere (th4.was ((l7.trans l8).trans l9).was) A3.fr
    have A1 := (bBack A1 lx7).le (l9.trans l10)
    have A2 := (bBack A2 lx8).le l10
    have A3 := bBack A3 lx9
    have g : ∀ j, j < 4 → (ys.flatMap hdC)[i * 4 + j]? = (hdC ys[i])[j]? := fun j hj => flatMap_get hdC_len ys i hi2 j hj
    have w1 := B4'.rd (g 1 (by decide))
    have w2 := B4'.rd (g 2 (by decide))
    have w3 := B4'.rd (g 3 (by decide))
    rw [Nat.zero_add] at w1 w2 w3
    have gl : (ys.flatMap hdC).length = ys.length * 4 := flatMap_len hdC_len ys
    have C1 := B4'.set (i := i * 4 + 1) (v := .slice r1 ys[i].2.al k1) (by omega) rfl
    have C2 := C1.set (i := i * 4 + 2) (v := .slice r2 ys[i].2.el k2) (by rw [List.length_set, gl]; omega) rfl
    have C3 := C2.set (i := i * 4 + 3) (v := .slice r3 ys[i].2.kl k3) (by rw [List.length_set, List.length_set, gl]; omega) rfl
    have hset := hd_set ys i hi2 ⟨r1, ys[i].2.al, k1, r2, ys[i].2.el, k2, r3, ys[i].2.kl, k3⟩
    simp only at hset
    rw [hset] at C3
    have M1 : Mod [bh] H10 (wr H10 bh (i * 4 + 1) (.slice r1 ys[i].2.al k1)) := Mod.refl.wr (.inl (by simp))
    have M2 := M1.wr (b := bh) (o := i * 4 + 2) (v := .slice r2 ys[i].2.el k2) (.inl (by simp))
    have M3 := M2.wr (b := bh) (o := i * 4 + 3) (v := .slice r3 ys[i].2.kl k3) (.inl (by simp))
    refine idxN i rfl (by omega) (nil ?_)
    simp only [Nat.zero_add]
    refine st w1 ⟨(d10.mod M1 hbb).2.2.2.2, (d10.mod M1 hbb).2.2.2.2, ?_⟩
    refine idxN i rfl (by omega) (nil ?_)
    simp only [Nat.zero_add]
    refine st (by rw [rd_wr_off (by omega)]; exact w2) ⟨(d10.mod M2 hbb).2.2.2.2, ?_⟩
    refine idxN i rfl (by omega) (nil ?_)
    simp only [Nat.zero_add]
    refine st (by rw [rd_wr_off (by omega), rd_wr_off (by omega)]; exact w3) (chk (by omega) ⟨⟨i + 1, ys.set i (ys[i].1, ⟨r1, ys[i].2.al, k1, r2, ys[i].2.el, k2, r3, ys[i].2.kl, k3⟩), by omega, by omega, ?_, d10.mod M3 hbb, (ex.le lt10).mod M3 hbb2, bModA (B1.le lt10) M3 ap1, bModA (B2.le lt10) M3 ap2, bModA (B3.le lt10) M3 ap3, C3, by simp [hyl], fun j h1 h2 => ?_, ?_⟩, by first | omega | (dsimp only; omega)⟩)
    · exact M3.le lx10 fun q hq' => by simp at hq'; subst hq'; exact B4.fr q 0 rfl
    · have hj : j < ys.length := by omega
      by_cases hji : j = i
      · subst hji
        rw [List.getElem_set_self]
        refine ⟨f1, fun _ => ?_, fun h => absurd h (by omega)⟩
        exact ⟨bModA A1 M3 apr1, bModA A2 M3 apr2, bModA A3 M3 apr3⟩
      · rw [List.getElem_set_ne (fun h => hji h.symm)]
        obtain ⟨g1, g2, g3⟩ := hy j h1 hj
        refine ⟨g1, fun hjl => ?_, fun h => g3 (by omega)⟩
        refine ((g2 (by omega)).le lt10).mod (z := ys[j]) M3 fun q hq' => apf q ?_
        exact List.mem_flatMap.2 ⟨ys[j], List.mem_iff_getElem.2 ⟨j, by rw [List.length_take]; omega, by rw [List.getElem_take]⟩, hq'⟩
    · rw [take_set hi2, List.flatMap_append, ← List.append_assoc]
      have : List.flatMap hdP [(ys[i].1, (⟨r1, ys[i].2.al, k1, r2, ys[i].2.el, k2, r3, ys[i].2.kl, k3⟩ : HD))] = [r1] ++ ([r2] ++ [r3]) := rfl
      rw [this, ← List.append_assoc, ← List.append_assoc]
      exact ok'.was ((was_wr.trans was_wr).trans was_wr)
  · have hi : i = hl := by omega
    refine ldI_i dx.1 (ldL_i dx.2.1 (ldL_i dx.2.2.1 (ldL_i dx.2.2.2.1 (ldL_i dx.2.2.2.2 ?_))))
    refine put5 ex fun H7 d7 m7 w7 => ldI_i d7.1 (ldL_i d7.2.1 (ldL_i d7.2.2.1 (ldL_i d7.2.2.2.1 (ldL_i d7.2.2.2.2 ?_))))
    have pw := ok.1
    have pw2 := List.pairwise_cons.1 (List.pairwise_cons.1 pw).2
    rw [List.take_of_length_le (by omega)] at pw2
    have ap : ∀ q ∈ [p1, p2, p3, p4] ++ ys.flatMap hdP, Apart (some ⟨b2, 0, none⟩) q := pw2.1
    have hb2' : H b2 = none := none_of_le l1 hb2
    refine hK p1 c1 p2 c2 p3 c3 p4 c4 ys H7 (m7.le lx fun q hq' => by simp at hq'; subst hq'; exact hb2') ⟨rfl, bModA B1 m7 (ap _ (by simp)), bModA B2 m7 (ap _ (by simp)), bModA B3 m7 (ap _ (by simp)), ⟨hyl, bModA B4 m7 (ap _ (by simp)), fun j h1 h2 => ⟨(hy j h1 h2).1, ((hy j h1 h2).2.1 (by omega)).mod (z := ys[j]) m7 fun q hq' => ap q ?_⟩⟩, pw2.2⟩
    exact List.mem_append_right _ (List.mem_flatMap.2 ⟨ys[j], List.getElem_mem h2, hq'⟩)
end
end Go.Proofs.Ytganockeifkecaa
namespace Go.Proofs.Ytganockeifkecaa
open Go.V
/-! ### Numbers of patches -/
theorem wrap16 (x : Int) : IntKind.wrap .u16 x = x % 65536 := by simp [IntKind.wrap, IntKind.signed, IntKind.bits]
theorem u32w {e : Int} (h : 0 ≤ e ∧ e < 4294967296) : IntKind.wrap .u32 e = e := wrap_in .u32 (by simp [IntKind.min, IntKind.max, IntKind.signed, IntKind.bits]; omega)
theorem ofInt32 {a : Nat} (ha : a < 4294967296) : (BitVec.ofInt 32 (a : Int)).toNat = a := by
  rw [BitVec.ofInt_natCast, BitVec.toNat_ofNat]; exact Nat.mod_eq_of_lt (by omega)
theorem ior32 {a b : Nat} (ha : a < 4294967296) (hb : b < 4294967296) : ior .u32 (a : Int) (b : Int) = ((a ||| b : Nat) : Int) := by
  have hx : a ||| b < 2 ^ 32 := Nat.or_lt_two_pow (by omega) (by omega)
  show IntKind.u32.wrap ((BitVec.ofInt 32 (a : Int) ||| BitVec.ofInt 32 (b : Int)).toNat : Int) = _
  rw [BitVec.toNat_or, ofInt32 ha, ofInt32 hb, u32w (by omega)]
theorem iand32 {a : Nat} (ha : a < 4294967296) : iand .u32 (a : Int) (65535 : Int) = ((a % 65536 : Nat) : Int) := by
  have e : ((65535 : Nat) : Int) = (65535 : Int) := rfl
  have hm : a &&& 65535 = a % 65536 := Nat.and_two_pow_sub_one_eq_mod a 16
  show IntKind.u32.wrap ((BitVec.ofInt 32 (a : Int) &&& BitVec.ofInt 32 (65535 : Int)).toNat : Int) = _
  rw [← e, BitVec.toNat_and, ofInt32 ha, ofInt32 (by decide), hm, u32w (by omega)]
theorem ishl32 {a : Nat} (h : a < 65536) : ishl .u32 (a : Int) (16 : Int) = ((a * 65536 : Nat) : Int) := by
  show IntKind.u32.wrap ((a : Int) * 2 ^ 16) = _
  have e : (a : Int) * 2 ^ 16 = ((a * 65536 : Nat) : Int) := by omega
  rw [e, u32w (by omega)]
theorem ishr32 {a : Nat} : ishr .u32 (a : Int) (16 : Int) = ((a / 65536 : Nat) : Int) := by
  show (a : Int).fdiv (2 ^ 16) = _
  rw [Int.fdiv_eq_ediv_of_nonneg _ (by decide)]; omega
theorem id_or {a b : Nat} (hb : b < 65536) : a * 65536 ||| b = a * 65536 + b := by
  have := Nat.shiftLeft_add_eq_or_of_lt (i := 16) (b := b) (by omega) a
  rw [Nat.shiftLeft_eq] at this
  exact this.symm
def idN (w s : Int) : Nat := (w % 65536).toNat * 65536 + (s % 65536).toNat
section
variable {H : Hp}
theorem patch_ID.c {w s : Int} {K : Int → Hp → Prop} (hK : K (idN w s : Nat) H) : patch_ID.C w s H K := by
  apply patch_ID.of
  unfold patch_ID.F
  rw [wrap16, wrap16]
  refine ⟨by show (0 : Int) ≤ _ ∧ _ ≤ (4294967295 : Int); omega, by decide, by show (0 : Int) ≤ _ ∧ _ ≤ (4294967295 : Int); omega, ?_⟩
  have e1 : w % 65536 = (((w % 65536).toNat : Nat) : Int) := by omega
  have e2 : s % 65536 = (((s % 65536).toNat : Nat) : Int) := by omega
  rw [e1, e2]
  show K (ior .u32 (ishl .u32 (((w % 65536).toNat : Nat) : Int) (16 : Int)) (((s % 65536).toNat : Nat) : Int)) H
  rw [ishl32 (by omega), ior32 (by omega) (by omega), id_or (by omega)]
  exact hK
end
/-! ### Known patches -/
def xk : Pt := ⟨65537, [], [[97]], [], [⟨[97], [[120, 10], [121]], [⟨⟨65537, 0⟩, ⟨65537, 1⟩⟩], []⟩]⟩
def xb : Pt := ⟨65537, [], [[97]], [], [⟨[97], [[10, 10], [121]], [⟨⟨65537, 0⟩, ⟨65537, 1⟩⟩], []⟩]⟩
def xz : Pt := ⟨0, [], [], [], []⟩
theorem xk_is : isB xk = true := by decide
theorem xb_is : isB xb = false := by decide
theorem xz_is : isB xz = false := by decide
theorem xk_needs : needsL xk = [] := by decide
theorem xk_paths : pathsL xk = [[97]] := by decide
theorem xk_ne : ¬ xk = xb := by decide
theorem path_ok : pathB [97, 47, 98, 46, 99] = true := by decide
theorem path_no : pathB [65] = false := by decide
theorem hkSm_of (h : Hk) (hp : h.path.length ≤ 1000) (ha : h.adds.length ≤ 1000) (he : h.edges.length ≤ 1000) (hk : h.kills.length ≤ 1000) (ht : ∀ s ∈ h.adds, s.length ≤ 1000000) : HkSm h := ⟨by omega, ha, he, hk, ht⟩
theorem xk_sm : PtSm xk := ⟨by decide, by decide, by decide, by decide, by decide, by decide, fun h hh => by
  simp only [xk, List.mem_singleton] at hh; subst hh; exact ⟨by decide, by decide, by decide, by decide, by decide⟩⟩
theorem xb_sm : PtSm xb := ⟨by decide, by decide, by decide, by decide, by decide, by decide, fun h hh => by
  simp only [xb, List.mem_singleton] at hh; subst hh; exact ⟨by decide, by decide, by decide, by decide, by decide⟩⟩
theorem xz_sm : PtSm xz := ⟨by decide, by decide, by decide, by decide, by decide, by decide, fun h hh => by simp [xz] at hh⟩
theorem xz_pt {H : Hp} : PtS H 0 none 0 0 none 0 0 none 0 0 none 0 0 xz := ⟨rfl, Sl.nil, Sl.nil, Sl.nil, rfl, Nat.le_refl _, .inl rfl⟩
end Go.Proofs.Ytganockeifkecaa
namespace Go.Proofs.Ytganockeifkecaa
open Go.V
/-! ### Few -/
def fewH (h : Hk) : Bool := decide (h.adds.length ≤ 50) && (decide (h.edges.length ≤ 90) && (decide (h.kills.length ≤ 50) && (decide (h.path.length ≤ 40) && h.adds.all fun s => decide (s.length ≤ 100))))
def fewB (x : Pt) : Bool := x.hunks.all fewH && ((x.makes.all fun s => decide (s.length ≤ 40)) && ((x.drops.all fun s => decide (s.length ≤ 40)) && (decide (x.hunks.length ≤ 8) && (decide (x.deps.length ≤ 70) && (decide (x.makes.length ≤ 10) && decide (x.drops.length ≤ 10))))))
theorem fewB_sm {x : Pt} (h : fewB x = true) : PtSm x := by
  simp only [fewB, fewH, Bool.and_eq_true, List.all_eq_true, decide_eq_true_eq] at h
  obtain ⟨h1, h2, h3, h4, h5, h6, h7⟩ := h
  refine ⟨by omega, by omega, by omega, by omega, fun s hs => Nat.le_trans (h2 s hs) (by decide), fun s hs => Nat.le_trans (h3 s hs) (by decide), fun g hg => ?_⟩
  obtain ⟨g1, g2, g3, g4, g5⟩ := h1 g hg
  exact ⟨by omega, by omega, by omega, by omega, fun s hs => Nat.le_trans (g5 s hs) (by decide)⟩
section
variable {H : Hp} {id : Int} {dp mp qp hp : Option Addr} {dl dc ml mc ql qc hl hc : Nat} {x : Pt}
theorem mkB_sz (s : BL) : (mkB s).size = s.length := mkB_size s
theorem centolaw12_few.c {K : Bool → Hp → Prop} (h : PtS H id dp dl dc mp ml mc qp ql qc hp hl hc x) (sl : hl ≤ 9223372036854775807 ∧ ml ≤ 9223372036854775807 ∧ ql ≤ 9223372036854775807) (hK : ∀ H', Le H H' → K (fewB x) H') : centolaw12_few.C id dp dl dc mp ml mc qp ql qc hp hl hc H K := by
  apply centolaw12_few.of
  intro b hb
  have l1 := Le.upd (c := [.int .u32 id, .slice dp dl dc, .slice mp ml mc, .slice qp ql qc, .slice hp hl hc]) hb
  have d := D5.new (H := H) (b := b) (id := id) (dp := dp) (dl := dl) (dc := dc) (mp := mp) (ml := ml) (mc := mc) (qp := qp) (ql := ql) (qc := qc) (hp := hp) (hl := hl) (hc := hc)
  revert l1 d
  generalize upd H b [.int .u32 id, .slice dp dl dc, .slice mp ml mc, .slice qp ql qc, .slice hp hl hc] = H1
  intro l1 d
  obtain ⟨rfl, hd, hm, hq, hh⟩ := h
  have eh := hh.1
  have ed := hd.len
  have em := hm.len
  have eq := hq.len
  have hh1 := HkH_le hh l1
  unfold fewB at hK
  refine ⟨fun t Hx => ∃ i : Nat, t = (i : Nat) ∧ i ≤ hl ∧ Le H1 Hx ∧ (x.hunks.take i).all fewH = true, fun t _ => ((hl : Int) - t).toNat, ⟨0, rfl, Nat.zero_le _, Le.refl _, rfl⟩, ?_⟩
  rintro t Hx ⟨i, rfl, gi, lx, hp1⟩
  have dx := d.le lx
  refine ldL_i dx.2.2.2.2 (bcd (fun hlt => ldL_i dx.2.2.2.2 ?_) fun hlt => ?_)
  · have hi : i < x.hunks.length := by omega
    have bad : ∀ {Hy}, Le H1 Hy → fewH x.hunks[i] = false → K false Hy := fun {Hy} ly hb => by
      have := hK _ (l1.trans ly)
      rw [all_bad hi hb] at this; exact this
    refine rsH2 hh1 lx rfl hi fun ap al ac ep el ec kp kl kc s1 s2 s3 => D4.mk fun q H2 hq2 dq l2 => ?_
    have e1 := s1.len
    have e2 := s2.len
    have e3 := s3.len
    have lx2 := lx.trans l2
    refine ldL_i dq.2.1 (bcd (fun g => bad lx2 ?_) fun g1 => ldL_i dq.2.2.1 (bcd (fun g => bad lx2 ?_) fun g2 => ldL_i dq.2.2.2 (bcd (fun g => bad lx2 ?_) fun g3 => ldS_i dq.1 ?_)))
    · unfold fewH; rw [decide_eq_false (by omega)]; rfl
    · unfold fewH; rw [decide_eq_false (by omega : ¬ x.hunks[i].edges.length ≤ 90)]; simp
    · unfold fewH; rw [decide_eq_false (by omega : ¬ x.hunks[i].kills.length ≤ 50)]; simp
    rw [mkB_sz]
    refine bcd (fun g => bad lx2 ?_) fun g4 => ?_
    · unfold fewH; rw [decide_eq_false (by omega : ¬ x.hunks[i].path.length ≤ 40)]; simp
    unfold centolaw12_few.k1
    refine ⟨fun t Hy => ∃ j : Nat, t = (j : Nat) ∧ j ≤ al ∧ Le H2 Hy ∧ ((x.hunks[i].adds.take j).all fun s => decide (s.length ≤ 100)) = true, fun t _ => ((al : Int) - t).toNat, ⟨0, rfl, Nat.zero_le _, Le.refl _, rfl⟩, ?_⟩
    rintro t Hy ⟨j, rfl, gj, ly, hp2⟩
    have dy := dq.le ly
    refine ldL_i dy.2.1 (bcd (fun hlt => ldL_i dy.2.1 ?_) fun hlt => ?_)
    · have hj : j < x.hunks[i].adds.length := by omega
      refine rsT (s1.le (lx2.trans ly)) rfl hj ?_
      rw [mkB_sz]
      refine bcd (fun g => bad (lx2.trans ly) ?_) fun g => chk (by omega) ⟨⟨j + 1, by omega, by omega, ly, all_next hj hp2 (by rw [decide_eq_true_eq]; omega)⟩, by first | omega | (dsimp only; omega)⟩
      unfold fewH
      rw [all_bad (f := fun s : BL => decide (s.length ≤ 100)) hj (by rw [decide_eq_false_iff_not]; omega)]; simp
    · refine chk (by omega) ⟨⟨i + 1, by omega, by omega, lx2.trans ly, all_next hi hp1 ?_⟩, by first | omega | (dsimp only; omega)⟩
      unfold fewH
      rw [all_end hp2 (by omega), decide_eq_true (by omega), decide_eq_true (by omega), decide_eq_true (by omega), decide_eq_true (by omega)]; rfl
  rw [all_end hp1 (by omega)] at hK
  simp only [Bool.true_and] at hK
  refine ⟨fun t Hx => ∃ i : Nat, t = (i : Nat) ∧ i ≤ ml ∧ Le H1 Hx ∧ ((x.makes.take i).all fun s => decide (s.length ≤ 40)) = true, fun t _ => ((ml : Int) - t).toNat, ⟨0, rfl, Nat.zero_le _, lx, rfl⟩, ?_⟩
  clear dx hlt
  rintro t Hy ⟨j, rfl, gj, ly, hp2⟩
  have dy := d.le ly
  refine ldL_i dy.2.2.1 (bcd (fun hlt => ldL_i dy.2.2.1 ?_) fun hlt => ?_)
  · have hj : j < x.makes.length := by omega
    refine rsT (hm.le (l1.trans ly)) rfl hj ?_
    rw [mkB_sz]
    refine bcd (fun g => ?_) fun g => chk (by omega) ⟨⟨j + 1, by omega, by omega, ly, all_next hj hp2 (by rw [decide_eq_true_eq]; omega)⟩, by first | omega | (dsimp only; omega)⟩
    have := hK _ (l1.trans ly)
    rw [all_bad (f := fun s : BL => decide (s.length ≤ 40)) hj (by rw [decide_eq_false_iff_not]; omega)] at this; exact this
  rw [all_end hp2 (by omega)] at hK
  simp only [Bool.true_and] at hK
  refine ⟨fun t Hx => ∃ i : Nat, t = (i : Nat) ∧ i ≤ ql ∧ Le H1 Hx ∧ ((x.drops.take i).all fun s => decide (s.length ≤ 40)) = true, fun t _ => ((ql : Int) - t).toNat, ⟨0, rfl, Nat.zero_le _, ly, rfl⟩, ?_⟩
  clear dy hlt
  rintro t Hz ⟨k, rfl, gk, lz, hp3⟩
  have dz := d.le lz
  refine ldL_i dz.2.2.2.1 (bcd (fun hlt => ldL_i dz.2.2.2.1 ?_) fun hlt => ?_)
  · have hj : k < x.drops.length := by omega
    refine rsT (hq.le (l1.trans lz)) rfl hj ?_
    rw [mkB_sz]
    refine bcd (fun g => ?_) fun g => chk (by omega) ⟨⟨k + 1, by omega, by omega, lz, all_next hj hp3 (by rw [decide_eq_true_eq]; omega)⟩, by first | omega | (dsimp only; omega)⟩
    have := hK _ (l1.trans lz)
    rw [all_bad (f := fun s : BL => decide (s.length ≤ 40)) hj (by rw [decide_eq_false_iff_not]; omega)] at this; exact this
  rw [all_end hp3 (by omega)] at hK
  simp only [Bool.true_and] at hK
  have hK := hK _ (l1.trans lz)
  refine ldL_i dz.2.2.2.2 (bcd (fun g1 => ldL_i dz.2.1 (bcd (fun g2 => ldL_i dz.2.2.1 (bcd (fun g3 => ldL_i dz.2.2.2.1 ?_) fun g => ?_)) fun g => ?_)) fun g => ?_)
  · rw [decide_eq_true (by omega), decide_eq_true (by omega), decide_eq_true (by omega)] at hK
    simp only [Bool.true_and] at hK
    have : decide (((ql : Nat) : Int) ≤ (10 : Int)) = decide (x.drops.length ≤ 10) := decide_eq_decide.2 (by omega)
    rw [this]; exact hK
  · rw [decide_eq_true (by omega), decide_eq_true (by omega), decide_eq_false (by omega)] at hK; exact hK
  · rw [decide_eq_true (by omega), decide_eq_false (by omega)] at hK; exact hK
  · rw [decide_eq_false (by omega)] at hK; exact hK
end
end Go.Proofs.Ytganockeifkecaa
namespace Go.Proofs.Ytganockeifkecaa
open Go.V
section
variable {H : Hp} {K : Bool → Hp → Prop}
theorem sl_one {H : Hp} {b : Nat} {s : BL} (h : rd H b 0 = some (sv s)) : Sl sv H (some ⟨b, 0, none⟩) 1 1 [s] := ⟨rfl, Nat.le_refl _, .inr ⟨b, 0, rfl, fun i hi => by
  match i, hi with
  | 0, _ => exact h⟩⟩
theorem sl_two {H : Hp} {b : Nat} {s t : BL} (h : rd H b 0 = some (sv s)) (h2 : rd H b 1 = some (sv t)) : Sl sv H (some ⟨b, 0, none⟩) 2 2 [s, t] := ⟨rfl, Nat.le_refl _, .inr ⟨b, 0, rfl, fun i hi => by
  match i, hi with
  | 0, _ => exact h
  | 1, _ => exact h2⟩⟩
theorem sn_one {H : Hp} {b : Nat} {e : Ed} (h : DE H b e) : Sn 4 edC H (some ⟨b, 0, none⟩) 1 1 [e] := ⟨rfl, Nat.le_refl _, .inr ⟨b, 0, rfl, fun i hi j v hv => by
  match i, hi with
  | 0, _ =>
    match j, hv with
    | 0, hv => simp [edC] at hv; subst hv; exact h.1
    | 1, hv => simp [edC] at hv; subst hv; exact h.2.1
    | 2, hv => simp [edC] at hv; subst hv; exact h.2.2.1
    | 3, hv => simp [edC] at hv; subst hv; exact h.2.2.2
    | j + 4, hv => simp [edC] at hv⟩⟩
theorem centolaw12_known.c (hK : ∀ H', Le H H' → K true H') : centolaw12_known.C H K := by
  apply centolaw12_known.of
  intro b1 hb1 b3 hb3 b5 hb5 b7 hb7
  have l1 := Le.upd (c := [.string (bs [97])]) hb1
  have l3 := Le.upd (c := [.string (bs [120, 10]), .string (bs [121])]) hb3
  have l5 := Le.upd (c := [.int .u32 (65537 : Int), .int .i64 (0 : Int), .int .u32 (65537 : Int), .int .i64 (1 : Int)]) hb5
  have l7 := Le.upd (c := [.string (bs [97]), .slice (some ⟨b3, 0, none⟩) 2 2, .slice (some ⟨b5, 0, none⟩) 1 1, .slice none 0 0]) hb7
  have r1 : rd (upd H b1 [.string (bs [97])]) b1 0 = some (sv [97]) := by rw [rd_upd_self]; rfl
  have r3 : rd (upd (upd H b1 [.string (bs [97])]) b3 [.string (bs [120, 10]), .string (bs [121])]) b3 0 = some (sv [120, 10]) := by rw [rd_upd_self]; rfl
  have r4 : rd (upd (upd H b1 [.string (bs [97])]) b3 [.string (bs [120, 10]), .string (bs [121])]) b3 1 = some (sv [121]) := by rw [rd_upd_self]; rfl
  have r5 := DE.new (H := upd (upd H b1 [.string (bs [97])]) b3 [.string (bs [120, 10]), .string (bs [121])]) (b := b5) (e := ⟨⟨65537, 0⟩, ⟨65537, 1⟩⟩)
  have r7 := D4.new (H := upd (upd (upd H b1 [.string (bs [97])]) b3 [.string (bs [120, 10]), .string (bs [121])]) b5 [.int .u32 (65537 : Int), .int .i64 (0 : Int), .int .u32 (65537 : Int), .int .i64 (1 : Int)]) (b := b7) (f := bs [97]) (ap := some ⟨b3, 0, none⟩) (al := 2) (ac := 2) (ep := some ⟨b5, 0, none⟩) (el := 1) (ec := 1) (kp := none) (kl := 0) (kc := 0)
  have s1 := sl_one (((l3.trans l5).trans l7).rd r1)
  have s3 := sl_two ((l5.trans l7).rd r3) ((l5.trans l7).rd r4)
  have s5 := sn_one (r5.le l7)
  have l17 := ((l1.trans l3).trans l5).trans l7
  revert s1 s3 s5 r7 l17
  generalize upd (upd (upd (upd H b1 [.string (bs [97])]) b3 [.string (bs [120, 10]), .string (bs [121])]) b5 [.int .u32 (65537 : Int), .int .i64 (0 : Int), .int .u32 (65537 : Int), .int .i64 (1 : Int)]) b7 [.string (bs [97]), .slice (some ⟨b3, 0, none⟩) 2 2, .slice (some ⟨b5, 0, none⟩) 1 1, .slice none 0 0] = H7
  intro r7 s1 s3 s5 l17
  refine D5.mk (id := 65537) fun b9 H9 hb9 d l9 => ?_
  have pk : PtS H9 65537 none 0 0 (some ⟨b1, 0, none⟩) 1 1 none 0 0 (some ⟨b7, 0, none⟩) 1 1 xk :=
    ⟨rfl, Sl.nil, s1.le l9, Sl.nil, rfl, Nat.le_refl _, .inr ⟨b7, 0, rfl, fun i hi => by
      match i, hi with
      | 0, _ => exact ⟨_, _, _, _, _, _, _, _, _, l9.rd r7.1, l9.rd r7.2.1, l9.rd r7.2.2.1, l9.rd r7.2.2.2, s3.le l9, s5.le l9, Sn.nil⟩⟩⟩
  refine ldI_i d.1 (ldL_i d.2.1 (ldL_i d.2.2.1 (ldL_i d.2.2.2.1 (ldL_i d.2.2.2.2 ?_))))
  refine patch_Copy.c pk xk_sm fun p1 c1 p2 c2 p3 c3 p4 c4 zs H10 l10 own => ?_
  refine D5.mk fun b56 H11 hb56 dq l11 => ?_
  refine ldL_i dq.2.2.2.2 (bcd (fun h => absurd rfl h) fun _ => ldL_i dq.2.2.2.2 ?_)
  obtain ⟨_, o1, o2, o3, ⟨hz, oB, oE⟩, pw⟩ := own
  obtain ⟨z, rfl⟩ := List.length_eq_one_iff.1 hz
  obtain ⟨hz1, A, E, Q⟩ := oE 0 (by decide) (by simp)
  have hz1 : z.1 = [97] := hz1
  have A : Buf 1 H9 H10 z.2.ap z.2.al z.2.ac [sv [120, 10], sv [121]] := A
  have hal : z.2.al = 2 := by have := A.1; simpa using this
  obtain ⟨ba, ea⟩ := A.some_of (by omega)
  obtain ⟨b4, rfl⟩ := oB.some_of (by decide)
  have rr : rd H10 b4 (0 + 0 * 4 + 1) = some (.slice z.2.ap z.2.al z.2.ac) := oB.rd (i := 1) rfl
  refine idxN 0 rfl (by decide) (nil (ldL_i (l11.rd rr) (bcd (fun h => absurd (by omega) h) fun _ => ?_)))
  unfold centolaw12_known.k1
  refine ldL_i dq.2.2.2.2 (idxN 0 rfl (by decide) (nil (ldL_i (l11.rd rr) ?_)))
  have hta : H10 ba ≠ none := A.there ea
  have hfa : H9 ba = none := A.fr ba 0 ea
  have pw1 := (List.pairwise_cons.1 pw).2
  have pw2 := List.pairwise_cons.1 pw1
  have pw3 := (List.pairwise_cons.1 pw2.2).2
  have pw4 := List.pairwise_cons.1 pw3
  have pw5 := List.pairwise_cons.1 (show [z.2.ap, z.2.ep, z.2.kp].Pairwise Apart from pw4.2)
  have ap2 : Apart (some ⟨ba, 0, none⟩) p2 := by rw [← ea]; exact (pw2.1 _ (by simp [hdP])).symm
  have ap4 : Apart (some ⟨ba, 0, none⟩) (some ⟨b4, 0, none⟩) := by rw [← ea]; exact (pw4.1 _ (by simp [hdP])).symm
  have apE : Apart (some ⟨ba, 0, none⟩) z.2.ep := by rw [← ea]; exact pw5.1 _ (by simp)
  have apQ : Apart (some ⟨ba, 0, none⟩) z.2.kp := by rw [← ea]; exact pw5.1 _ (by simp)
  rw [ea] at A ⊢
  have A := A.le l11
  refine idxN 0 rfl (by omega) (nil (st (A.rd (i := 0) rfl) ?_))
  have A' := A.set (i := 0) (v := .string (bs [10, 10])) (by decide) rfl
  have M : Mod [ba] H11 (wr H11 ba (0 + 0) (.string (bs [10, 10]))) := Mod.refl.wr (.inl (by simp))
  have A' : Buf 1 H9 (wr H11 ba (0 + 0) (.string (bs [10, 10]))) (some ⟨ba, 0, none⟩) z.2.al z.2.ac ([[10, 10], [121]].map sv) := A'
  revert A' M
  generalize wr H11 ba (0 + 0) (.string (bs [10, 10])) = H12
  intro M A'
  have le12 : Le H9 H12 := M.le (l10.trans l11) fun q hq => by simp at hq; subst hq; exact hfa
  have d := d.le le12
  have pk := pk.up le12
  have dq := dq.mod M (fun h => by simp at h; subst h; exact hta hb56)
  have q2 := (bModA (o2.le l11) M ap2).sl
  have qB := (bModA (oB.le l11) M ap4).sn hdC_len (by decide)
  have qE := (bModA (E.le l11) M apE).sn edC_len (by decide)
  have qQ := (bModA (Q.le l11) M apQ).sn lidC_len (by decide)
  have pb : PtS H12 65537 p1 0 c1 p2 1 c2 p3 0 c3 (some ⟨b4, 0, none⟩) 1 c4 xb := ⟨rfl, Sl.nil, q2, Sl.nil, HkH.of (zs := [z]) rfl qB fun j h1 h2 => by
    match j, h1, h2 with
    | 0, _, _ => exact ⟨hz1, by show Sl sv H12 z.2.ap z.2.al z.2.ac [[10, 10], [121]]; rw [ea]; exact A'.sl, qE, qQ⟩⟩
  have l012 := (l17.trans l9).trans le12
  refine ldI_i d.1 (ldL_i d.2.1 (ldL_i d.2.2.1 (ldL_i d.2.2.2.1 (ldL_i d.2.2.2.2 ?_))))
  refine patch_Is.c pk xk_sm fun Ha la => bc_i (fun _ => ?_) fun h => absurd h (by rw [xk_is]; decide)
  have d2 := dq.le la
  refine ldI_i d2.1 (ldL_i d2.2.1 (ldL_i d2.2.2.1 (ldL_i d2.2.2.2.1 (ldL_i d2.2.2.2.2 ?_))))
  refine patch_Is.c (pb.up la) xb_sm fun Hb lb => bcn (fun _ => ?_) fun h => absurd h (by rw [xb_is]; decide)
  refine patch_Is.c xz_pt xz_sm fun Hc lc => bcn (fun _ => ?_) fun h => absurd h (by rw [xz_is]; decide)
  have lz := (la.trans lb).trans lc
  have d3 := d.le lz
  refine ldI_i d3.1 (ldL_i d3.2.1 (ldL_i d3.2.2.1 (ldL_i d3.2.2.2.1 (ldL_i d3.2.2.2.2 ?_))))
  refine ldI_i d3.1 (ldL_i d3.2.1 (ldL_i d3.2.2.1 (ldL_i d3.2.2.2.1 (ldL_i d3.2.2.2.2 ?_))))
  refine patch_Copy.c (pk.up lz) xk_sm fun p1 c1 p2 c2 p3 c3 p4 c4 zs Hd ld own => ?_
  have d4 := d3.le ld
  refine ⟨d4.1, d4.2.1, d4.2.2.1, d4.2.2.2.1, d4.2.2.2.2, ?_⟩
  refine patch_Same.c (pk.up (lz.trans ld)) own.pt xk_sm fun He le => bcd (fun _ => ?_) fun h => absurd rfl h
  have ly := (lz.trans ld).trans le
  have d5 := d.le ly
  have d6 := dq.le ly
  refine ldI_i d5.1 (ldL_i d5.2.1 (ldL_i d5.2.2.1 (ldL_i d5.2.2.2.1 (ldL_i d5.2.2.2.2 ?_))))
  refine ldI_i d6.1 (ldL_i d6.2.1 (ldL_i d6.2.2.1 (ldL_i d6.2.2.2.1 (ldL_i d6.2.2.2.2 ?_))))
  refine patch_Same.c (pk.up ly) (pb.up ly) xk_sm fun Hf lf => bcn (fun _ => ?_) fun h => absurd (of_decide_eq_true h) xk_ne
  have d7 := d5.le lf
  refine ldI_i d7.1 (ldL_i d7.2.1 (ldL_i d7.2.2.1 (ldL_i d7.2.2.2.1 (ldL_i d7.2.2.2.2 ?_))))
  refine patch_Lines.c (pk.up (ly.trans lf)) xk_sm fun Hg lg => bcd (fun _ => ?_) fun h => absurd rfl h
  have d8 := d7.le lg
  refine ldI_i d8.1 (ldL_i d8.2.1 (ldL_i d8.2.2.1 (ldL_i d8.2.2.2.1 (ldL_i d8.2.2.2.2 ?_))))
  refine patch_Needs.c (pk.up ((ly.trans lf).trans lg)) xk_sm fun pn ln cn Hh lh sn _ _ => ?_
  have en := sn.len
  rw [xk_needs] at en
  refine bcd (fun _ => ?_) fun h => absurd (by rw [en]; rfl) h
  have d9 := d8.le lh
  refine ldI_i d9.1 (ldL_i d9.2.1 (ldL_i d9.2.2.1 (ldL_i d9.2.2.2.1 (ldL_i d9.2.2.2.2 ?_))))
  refine patch_Paths.c (pk.up (((ly.trans lf).trans lg).trans lh)) xk_sm fun pn ln cn Hi li sn _ _ => ?_
  have en := sn.len
  rw [xk_paths] at en
  refine bcd (fun _ => ?_) fun h => absurd (by rw [en]; rfl) h
  refine patch_IsPath.c (s := [97, 47, 98, 46, 99]) (by decide) (bc_i (fun _ => ?_) fun h => absurd h (by rw [path_ok]; decide))
  refine patch_IsPath.c (s := [65]) (by decide) (bcn (fun _ => ?_) fun h => absurd h (by rw [path_no]; decide))
  refine patch_ID.c ?_
  exact hK _ (l012.trans ((((ly.trans lf).trans lg).trans lh).trans li))
end
end Go.Proofs.Ytganockeifkecaa
namespace Go.Proofs.Ytganockeifkecaa
open Go.V
/-! ### Patches that come in -/
abbrev lidE : Enc (Int × Int) := (Enc.int .u32).pair (Enc.int .i64)
abbrev edE : Enc ((Int × Int) × (Int × Int)) := lidE.pair lidE
abbrev hkE : Enc (ByteArray × List ByteArray × List ((Int × Int) × (Int × Int)) × List (Int × Int)) := Enc.str.pair (Enc.str.sl.pair (edE.sl.pair lidE.sl))
abbrev PtX : Type := Int × List Int × List ByteArray × List ByteArray × List (ByteArray × List ByteArray × List ((Int × Int) × (Int × Int)) × List (Int × Int))
abbrev ptE : Enc PtX := (Enc.int .u32).pair ((Enc.int .u32).sl.pair (Enc.str.sl.pair (Enc.str.sl.pair hkE.sl)))
def toLid (x : Int × Int) : Lid := ⟨x.1, x.2⟩
def toEd (x : (Int × Int) × (Int × Int)) : Ed := ⟨toLid x.1, toLid x.2⟩
def toHk (x : ByteArray × List ByteArray × List ((Int × Int) × (Int × Int)) × List (Int × Int)) : Hk := ⟨L x.1, x.2.1.map L, x.2.2.1.map toEd, x.2.2.2.map toLid⟩
def toPt (x : PtX) : Pt := ⟨x.1, x.2.1, x.2.2.1.map L, x.2.2.2.1.map L, x.2.2.2.2.map toHk⟩
theorem lidE_rep {H : Hp} {cs : List Value} {x : Int × Int} (h : lidE.rep H cs x) : cs = lidC (toLid x) := by
  obtain ⟨c1, c2, rfl, ⟨h1, _⟩, ⟨h2, _⟩⟩ := h
  rw [h1, h2]; rfl
theorem edE_rep {H : Hp} {cs : List Value} {x : (Int × Int) × (Int × Int)} (h : edE.rep H cs x) : cs = edC (toEd x) := by
  obtain ⟨c1, c2, rfl, h1, h2⟩ := h
  rw [lidE_rep h1, lidE_rep h2]; rfl
theorem strs_sv {H : Hp} {p : Option Addr} {l c : Nat} {xs : List ByteArray} (h : Enc.str.rows H p l c xs) : Sl sv H p l c (xs.map L) := by
  obtain ⟨e, hc, hh⟩ := h.strs
  refine ⟨by rw [List.length_map]; exact e, hc, hh.imp (fun e => by rw [e]; rfl) fun ⟨b, o, e, hh⟩ => ⟨b, o, e, fun i hi => ?_⟩⟩
  rw [List.length_map] at hi
  rw [List.getElem_map]
  exact hh i hi
theorem hks_hkH {H : Hp} {p : Option Addr} {l c : Nat} {xs : List (ByteArray × List ByteArray × List ((Int × Int) × (Int × Int)) × List (Int × Int))} (h : hkE.rows H p l c xs) : HkH H p l c (xs.map toHk) := by
  refine ⟨by rw [List.length_map]; exact h.1, h.2.1, ?_⟩
  by_cases hn : xs = []
  · left; rw [hn]; rfl
  · right
    have hpos : 0 < xs.length := List.length_pos_iff.2 hn
    obtain ⟨b, o, hp⟩ := h.2.2.2.1 (by have := h.1; have := h.2.1; omega)
    refine ⟨b, o, hp, fun i hi => ?_⟩
    rw [List.length_map] at hi
    obtain ⟨cs, ⟨c1, c2, rfl, ⟨h1, _⟩, ⟨c3, c4, rfl, ⟨ap, al, ac, rfl, h3⟩, ⟨c5, c6, rfl, ⟨ep, el, ec, rfl, h4⟩, ⟨kp, kl, kc, rfl, h5⟩⟩⟩⟩, h6⟩ := h.2.2.2.2 b o hp i hi
    rw [List.getElem_map]
    have h1 : c1 = [.string xs[i].1] := h1
    subst h1
    exact ⟨ap, al, ac, ep, el, ec, kp, kl, kc, h6 0 _ rfl, h6 1 _ rfl, h6 2 _ rfl, h6 3 _ rfl, strs_sv h3, (h4.sn edE_rep).map, (h5.sn lidE_rep).map⟩
theorem ptE_rep {H : Hp} {cs : List Value} {x : PtX} (h : ptE.rep H cs x) :
    ∃ dp dl dc mp ml mc qp ql qc hp hl hc, cs = [.int .u32 x.1, .slice dp dl dc, .slice mp ml mc, .slice qp ql qc, .slice hp hl hc] ∧ PtS H x.1 dp dl dc mp ml mc qp ql qc hp hl hc (toPt x) ∧ (hl ≤ 9223372036854775807 ∧ ml ≤ 9223372036854775807 ∧ ql ≤ 9223372036854775807) := by
  obtain ⟨c1, c2, rfl, ⟨h1, _⟩, ⟨c3, c4, rfl, ⟨dp, dl, dc, rfl, h2⟩, ⟨c5, c6, rfl, ⟨mp, ml, mc, rfl, h3⟩, ⟨c7, c8, rfl, ⟨qp, ql, qc, rfl, h4⟩, ⟨hp, hl, hc, rfl, h5⟩⟩⟩⟩⟩ := h
  have h1 : c1 = [.int .u32 x.1] := h1
  subst h1
  exact ⟨dp, dl, dc, mp, ml, mc, qp, ql, qc, hp, hl, hc, rfl, ⟨rfl, h2.ints, strs_sv h3, strs_sv h4, hks_hkH h5⟩, Nat.le_trans h5.2.1 h5.2.2.1, Nat.le_trans h3.2.1 h3.2.2.1, Nat.le_trans h4.2.1 h4.2.2.1⟩
end Go.Proofs.Ytganockeifkecaa
namespace Go.Proofs.Ytganockeifkecaa
open Go.V
/-! ### A part of a patch is set -/
section
variable {H : Hp} {b : Nat} {id : Int} {dp mp qp hp : Option Addr} {dl dc ml mc ql qc hl hc : Nat}
theorem put0 (h : D5 H b id dp dl dc mp ml mc qp ql qc hp hl hc) {id' : Int} {F : Hp → Prop} (hF : ∀ H', D5 H' b id' dp dl dc mp ml mc qp ql qc hp hl hc → Mod [b] H H' → Was H H' → F H') : ST H b 0 (.int .u32 id') F :=
  st h.1 (hF _ ⟨rd_wr_self h.1, by rw [rd_wr_off (by decide)]; exact h.2.1, by rw [rd_wr_off (by decide)]; exact h.2.2.1, by rw [rd_wr_off (by decide)]; exact h.2.2.2.1, by rw [rd_wr_off (by decide)]; exact h.2.2.2.2⟩ (Mod.refl.wr (.inl (by simp))) was_wr)
theorem put1 (h : D5 H b id dp dl dc mp ml mc qp ql qc hp hl hc) {p' : Option Addr} {l' c' : Nat} {F : Hp → Prop} (hF : ∀ H', D5 H' b id p' l' c' mp ml mc qp ql qc hp hl hc → Mod [b] H H' → Was H H' → F H') : ST H b 1 (.slice p' l' c') F :=
  st h.2.1 (hF _ ⟨by rw [rd_wr_off (by decide)]; exact h.1, rd_wr_self h.2.1, by rw [rd_wr_off (by decide)]; exact h.2.2.1, by rw [rd_wr_off (by decide)]; exact h.2.2.2.1, by rw [rd_wr_off (by decide)]; exact h.2.2.2.2⟩ (Mod.refl.wr (.inl (by simp))) was_wr)
theorem put2 (h : D5 H b id dp dl dc mp ml mc qp ql qc hp hl hc) {p' : Option Addr} {l' c' : Nat} {F : Hp → Prop} (hF : ∀ H', D5 H' b id dp dl dc p' l' c' qp ql qc hp hl hc → Mod [b] H H' → Was H H' → F H') : ST H b 2 (.slice p' l' c') F :=
  st h.2.2.1 (hF _ ⟨by rw [rd_wr_off (by decide)]; exact h.1, by rw [rd_wr_off (by decide)]; exact h.2.1, rd_wr_self h.2.2.1, by rw [rd_wr_off (by decide)]; exact h.2.2.2.1, by rw [rd_wr_off (by decide)]; exact h.2.2.2.2⟩ (Mod.refl.wr (.inl (by simp))) was_wr)
theorem put3 (h : D5 H b id dp dl dc mp ml mc qp ql qc hp hl hc) {p' : Option Addr} {l' c' : Nat} {F : Hp → Prop} (hF : ∀ H', D5 H' b id dp dl dc mp ml mc p' l' c' hp hl hc → Mod [b] H H' → Was H H' → F H') : ST H b 3 (.slice p' l' c') F :=
  st h.2.2.2.1 (hF _ ⟨by rw [rd_wr_off (by decide)]; exact h.1, by rw [rd_wr_off (by decide)]; exact h.2.1, by rw [rd_wr_off (by decide)]; exact h.2.2.1, rd_wr_self h.2.2.2.1, by rw [rd_wr_off (by decide)]; exact h.2.2.2.2⟩ (Mod.refl.wr (.inl (by simp))) was_wr)
end
theorem centoref12_Has.c {H : Hp} {K : Bool → Hp → Prop} {p : Option Addr} {l c : Nat} {xs : List Int} {v : Int} (h : Sl fU H p l c xs) (hl : l ≤ 1000000000) (hK : K (decide (v ∈ xs)) H) : centoref12_Has.C p l c v H K := by
  apply centoref12_Has.of
  have e := h.len
  refine ⟨fun t Hx => ∃ i : Nat, t = (i : Nat) ∧ i ≤ l ∧ Hx = H ∧ v ∉ xs.take i, fun t _ => ((l : Int) - t).toNat, ⟨0, rfl, Nat.zero_le _, rfl, by simp⟩, ?_⟩
  rintro t Hx ⟨i, rfl, gi, rfl, hn⟩
  refine bcd (fun hlt => ?_) fun hlt => ?_
  · have hi : i < xs.length := by omega
    refine rsU h rfl hi (bcd (fun he => ?_) fun he => chk (by omega) ⟨⟨i + 1, by omega, by omega, by trivial, fun hm => ?_⟩, by first | omega | (dsimp only; omega)⟩)
    · rw [decide_eq_true (by rw [← he]; exact List.getElem_mem hi)] at hK; exact hK
    · rw [List.take_succ_eq_append_getElem hi, List.mem_append] at hm
      rcases hm with hm | hm
      · exact hn hm
      · simp at hm; exact he hm.symm
  · rw [List.take_of_length_le (by omega)] at hn
    rw [decide_eq_false hn] at hK; exact hK
/-! ### What a patch needs is told -/
theorem needsL_mem {x : Pt} {n : Int} (h : n ∈ needsL x) : ¬ n = x.id := by
  have := uniqL_mem.1 h
  have := (List.mem_filter.1 this).2
  simpa using this
theorem needsL_pw (x : Pt) : (needsL x).Pairwise fun a b => Sort.ltInt a b = true := uniqL_pw ltInt_tr fun _ _ => ltInt_anti
theorem isB_deps {x : Pt} (h : isB x = true) : depsB x = true := by
  simp only [isB, Bool.and_eq_true] at h
  exact h.2.2.2.2.1
theorem depsB_needs {x : Pt} (h : depsB x = true) {n : Int} (hn : n ∈ needsL x) : n ∈ x.deps := by
  simp only [depsB, Bool.and_eq_true, List.all_eq_true, decide_eq_true_eq] at h
  exact h.2.2.2.2 n hn
theorem isB_not {x : Pt} {n : Int} (hn : n ∈ needsL x) (hd : n ∉ x.deps) : isB x = false := by
  cases e : isB x with
  | false => rfl
  | true => exact absurd (depsB_needs (isB_deps e) hn) hd
end Go.Proofs.Ytganockeifkecaa
namespace Go.Proofs.Ytganockeifkecaa
open Go.V
/-! ### A row stays one -/
def Row (s : Nat) (A H : Hp) (p : Option Addr) (l c : Nat) : Prop := ∃ cells, Buf s A H p l c cells
section
variable {s : Nat} {A H : Hp} {p : Option Addr} {l cc : Nat}
theorem Row.wr (h : Row s A H p l cc) {b o : Nat} {v : Value} (hv : isCell v = true) : Row s A (wr H b o v) p l cc := by
  obtain ⟨cells, h1, h2⟩ := h
  rcases h2 with ⟨rfl, h3, h4⟩ | ⟨q, r, rfl, h3, h4, h5, h6, h7⟩
  · exact ⟨cells, h1, .inl ⟨rfl, h3, h4⟩⟩
  · by_cases e : q = b
    · subst e
      have hl : ((cells ++ r).set o v).length = (cells ++ r).length := by simp
      refine ⟨((cells ++ r).set o v).take cells.length, ?_, .inr ⟨q, ((cells ++ r).set o v).drop cells.length, rfl, h3, ?_, ?_, h6, ?_⟩⟩
      · rw [List.length_take, hl, List.length_append]; omega
      · unfold Go.V.wr; rw [if_pos rfl, h4, List.take_append_drop]; rfl
      · rw [List.length_take, List.length_drop, hl, List.length_append]; omega
      · rw [List.take_append_drop, List.all_eq_true]
        intro x hx
        rcases List.mem_or_eq_of_mem_set hx with hx | rfl
        · exact List.all_eq_true.1 h7 x hx
        · exact hv
    · exact ⟨cells, h1, .inr ⟨q, r, rfl, h3, by unfold Go.V.wr; rw [if_neg e]; exact h4, h5, h6, h7⟩⟩
theorem Row.at (h : Row s A H p l cc) {i : Nat} (hi : i < l * s) : ∃ b v, p = some ⟨b, 0, none⟩ ∧ rd H b i = some v ∧ A b = none := by
  obtain ⟨cells, h⟩ := h
  have hl : 0 < l := by
    rcases Nat.eq_zero_or_pos l with e | e
    · subst e; simp at hi
    · exact e
  obtain ⟨b, rfl⟩ := h.some_of hl
  have : i < cells.length := by rw [← h.1]; exact hi
  have e := h.rd (List.getElem?_eq_getElem this)
  rw [Nat.zero_add] at e
  exact ⟨b, _, rfl, e, h.fr b 0 rfl⟩
theorem Row.ofBuf {cells : List Value} (h : Buf s A H p l cc cells) : Row s A H p l cc := ⟨cells, h⟩
theorem hd_path : ∀ (zs : List (BL × HD)) (i : Nat) (h : i < zs.length) (t : BL), (zs.flatMap hdC).set (i * 4) (sv t) = (zs.set i (t, zs[i].2)).flatMap hdC
  | z :: zs, 0, _, t => by simp [hdC]
  | z :: zs, i + 1, h, t => by
    have e : (i + 1) * 4 = (hdC z).length + i * 4 := by rw [hdC_len]; omega
    rw [List.flatMap_cons, e, List.set_append_right _ _ (Nat.le_add_right _ _), Nat.add_sub_cancel_left, hd_path zs i (by simpa using h) t]
    rfl
end
/-- A copy whose numbers and texts may be any. -/
structure Qs (R H : Hp) (dp : Option Addr) (dl dc : Nat) (mp : Option Addr) (ml mc : Nat) (hp : Option Addr) (hl hc : Nat) (ds : List HD) : Prop where
  le : Le R H
  deps : Row 1 R H dp dl dc
  makes : Row 1 R H mp ml mc
  hunks : ∃ zs : List (BL × HD), Buf 4 R H hp hl hc (zs.flatMap hdC) ∧ zs.map (·.2) = ds
  each : ∀ d ∈ ds, Row 1 R H d.ap d.al d.ac ∧ Row 4 R H d.ep d.el d.ec ∧ Row 2 R H d.kp d.kl d.kc
section
variable {R H : Hp} {dp mp hp : Option Addr} {dl dc ml mc hl hc : Nat} {ds : List HD}
theorem Qs.wr (h : Qs R H dp dl dc mp ml mc hp hl hc ds) {b o : Nat} {v : Value} (hv : isCell v = true) (hb : R b = none) (ha : Apart (some ⟨b, 0, none⟩) hp) : Qs R (wr H b o v) dp dl dc mp ml mc hp hl hc ds := by
  obtain ⟨zs, h1, h2⟩ := h.hunks
  exact ⟨h.le.wr hb, h.deps.wr hv, h.makes.wr hv, ⟨zs, bModA h1 (Mod.refl.wr (.inl (by simp))) ha, h2⟩, fun d hd => ⟨(h.each d hd).1.wr hv, (h.each d hd).2.1.wr hv, (h.each d hd).2.2.wr hv⟩⟩
theorem Qs.path (h : Qs R H dp dl dc mp ml mc hp hl hc ds) {i : Nat} (hi : i < ds.length) {t : BL} : ∃ b v, hp = some ⟨b, 0, none⟩ ∧ rd H b (i * 4) = some v ∧ Qs R (Go.V.wr H b (i * 4) (sv t)) dp dl dc mp ml mc hp hl hc ds := by
  obtain ⟨zs, h1, h2⟩ := h.hunks
  have hz : zs.length = ds.length := by rw [← h2, List.length_map]
  have hlen : hl * 4 = zs.length * 4 := by rw [h1.1, flatMap_len hdC_len]
  obtain ⟨b, rfl⟩ := h1.some_of (by omega)
  have hc4 : i * 4 < (zs.flatMap hdC).length := by rw [flatMap_len hdC_len]; omega
  have e := h1.rd (List.getElem?_eq_getElem hc4)
  rw [Nat.zero_add] at e
  have hs := h1.set (v := sv t) hc4 rfl
  rw [hd_path zs i (by omega) t] at hs
  refine ⟨b, _, rfl, e, ⟨h.le.wr (h1.fr b 0 rfl), h.deps.wr rfl, h.makes.wr rfl, ⟨_, hs, ?_⟩, fun d hd => ⟨(h.each d hd).1.wr rfl, (h.each d hd).2.1.wr rfl, (h.each d hd).2.2.wr rfl⟩⟩⟩
  rw [List.map_set, h2]
  have : zs[i].2 = ds[i] := by simp [← h2]
  simp only [this]
  exact List.set_getElem_self hi
theorem Qs.len (h : Qs R H dp dl dc mp ml mc hp hl hc ds) : hl = ds.length := by
  obtain ⟨zs, h1, h2⟩ := h.hunks
  have hlen : hl * 4 = zs.length * 4 := by rw [h1.1, flatMap_len hdC_len]
  rw [← h2, List.length_map]; omega
theorem Qs.row (h : Qs R H dp dl dc mp ml mc hp hl hc ds) {i : Nat} (hi : i < ds.length) :
    ∃ b, hp = some ⟨b, 0, none⟩ ∧ rd H b (i * 4 + 1) = some (.slice ds[i].ap ds[i].al ds[i].ac) ∧ rd H b (i * 4 + 2) = some (.slice ds[i].ep ds[i].el ds[i].ec) ∧ rd H b (i * 4 + 3) = some (.slice ds[i].kp ds[i].kl ds[i].kc) := by
  obtain ⟨zs, h1, h2⟩ := h.hunks
  have hz : zs.length = ds.length := by rw [← h2, List.length_map]
  have hlen : hl * 4 = zs.length * 4 := by rw [h1.1, flatMap_len hdC_len]
  obtain ⟨b, rfl⟩ := h1.some_of (by omega)
  have g : ∀ j, j < 4 → (zs.flatMap hdC)[i * 4 + j]? = (hdC zs[i])[j]? := fun j hj => flatMap_get hdC_len zs i (by omega) j hj
  have this : zs[i].2 = ds[i] := by simp [← h2]
  have w1 := h1.rd (g 1 (by decide))
  have w2 := h1.rd (g 2 (by decide))
  have w3 := h1.rd (g 3 (by decide))
  rw [Nat.zero_add, this] at w1 w2 w3
  exact ⟨b, rfl, w1, w2, w3⟩
end
end Go.Proofs.Ytganockeifkecaa
namespace Go.Proofs.Ytganockeifkecaa
open Go.V
section
variable {R H : Hp} {K : Bool → Hp → Prop} {b bq br : Nat} {x : Pt}
theorem copies_end {id iq ir : Int} {dp mp qp hp p1 p2 p3 p4 r1 r2 r3 r4 : Option Addr} {dl dc ml mc ql qc hl hc l1 c1 l2 c2 l3 c3 l4 c4 m1 k1 m2 k2 m3 k3 m4 k4 : Nat} {ds : List HD} (q : Qs R H p1 l1 c1 p2 l2 c2 p4 l4 c4 ds)
    (db : D5 R b id dp dl dc mp ml mc qp ql qc hp hl hc) (dq : D5 R bq iq p1 l1 c1 p2 l2 c2 p3 l3 c3 p4 l4 c4) (dr : D5 R br ir r1 m1 k1 r2 m2 k2 r3 m3 k3 r4 m4 k4) (hx : PtS R id dp dl dc mp ml mc qp ql qc hp hl hc x) (hr : PtS R ir r1 m1 k1 r2 m2 k2 r3 m3 k3 r4 m4 k4 x) (sm : PtSm x)
    (s1 : l1 ≤ 1000) (s2 : l2 ≤ 1000) (s4 : l4 ≤ 1000) (sd : ∀ d ∈ ds, d.al ≤ 1000 ∧ d.el ≤ 1000 ∧ d.kl ≤ 1000) (a1 : Apart p1 p4) (a2 : Apart p2 p4) (ad : ∀ d ∈ ds, Apart d.ap p4 ∧ Apart d.ep p4 ∧ Apart d.kp p4)
    (hK : ∀ H', Le R H' → K true H') : centolaw12_PatchCopies.k1 K b bq br H := by
  unfold centolaw12_PatchCopies.k1
  refine ⟨fun t Hx => ∃ i : Nat, t = (i : Nat) ∧ i ≤ l1 ∧ Qs R Hx p1 l1 c1 p2 l2 c2 p4 l4 c4 ds, fun t _ => ((l1 : Int) - t).toNat, ⟨0, rfl, Nat.zero_le _, q⟩, ?_⟩
  clear q
  rintro t H ⟨i, rfl, gi, q⟩
  refine ldL_i (q.le.rd dq.2.1) (bcd (fun hlt => ldL_i (q.le.rd dq.2.1) ?_) fun hlt => ?_)
  · obtain ⟨ba, v, rfl, r, fr⟩ := q.deps.at (i := i) (by omega)
    refine idxN i rfl (by omega) (nil ?_)
    simp only [Nat.zero_add]
    exact st r (chk (by omega) ⟨⟨i + 1, by omega, by omega, q.wr rfl fr a1⟩, by first | omega | (dsimp only; omega)⟩)
  clear hlt gi i
  refine ⟨fun t Hx => ∃ i : Nat, t = (i : Nat) ∧ i ≤ l2 ∧ Qs R Hx p1 l1 c1 p2 l2 c2 p4 l4 c4 ds, fun t _ => ((l2 : Int) - t).toNat, ⟨0, rfl, Nat.zero_le _, q⟩, ?_⟩
  clear q
  rintro t H ⟨i, rfl, gi, q⟩
  refine ldL_i (q.le.rd dq.2.2.1) (bcd (fun hlt => ldL_i (q.le.rd dq.2.2.1) ?_) fun hlt => ?_)
  · obtain ⟨ba, v, rfl, r, fr⟩ := q.makes.at (i := i) (by omega)
    refine idxN i rfl (by omega) (nil ?_)
    simp only [Nat.zero_add]
    exact st r (chk (by omega) ⟨⟨i + 1, by omega, by omega, q.wr rfl fr a2⟩, by first | omega | (dsimp only; omega)⟩)
  clear hlt gi i
  have el4 := q.len
  refine ⟨fun t Hx => ∃ i : Nat, t = (i : Nat) ∧ i ≤ l4 ∧ Qs R Hx p1 l1 c1 p2 l2 c2 p4 l4 c4 ds, fun t _ => ((l4 : Int) - t).toNat, ⟨0, rfl, Nat.zero_le _, q⟩, ?_⟩
  clear q
  rintro t H ⟨i, rfl, gi, q⟩
  refine ldL_i (q.le.rd dq.2.2.2.2) (bcd (fun hlt => ?_) fun hlt => ?_)
  · have hi : i < ds.length := by omega
    have hm := List.getElem_mem hi
    obtain ⟨z1, z2, z3⟩ := sd _ hm
    obtain ⟨y1, y2, y3⟩ := ad _ hm
    refine ⟨fun t Hx => ∃ k : Nat, t = (k : Nat) ∧ k ≤ ds[i].al ∧ Qs R Hx p1 l1 c1 p2 l2 c2 p4 l4 c4 ds, fun t _ => ((ds[i].al : Int) - t).toNat, ⟨0, rfl, Nat.zero_le _, q⟩, ?_⟩
    clear q
    rintro t H ⟨k, rfl, gk, q⟩
    refine ldL_i (q.le.rd dq.2.2.2.2) ?_
    obtain ⟨bh, eh, w1, w2, w3⟩ := q.row hi
    rw [eh]
    refine idxN i rfl (by omega) (nil ?_)
    simp only [Nat.zero_add]
    refine ldL_i w1 (bcd (fun hlt => ?_) fun hlt => ?_)
    · refine ldL_i (q.le.rd dq.2.2.2.2) ?_
      rw [eh]
      refine idxN i rfl (by omega) (nil ?_)
      simp only [Nat.zero_add]
      refine ldL_i w1 ?_
      obtain ⟨ba, v, ea, r, fr⟩ := (q.each _ hm).1.at (i := k) (by omega)
      rw [ea]
      refine idxN k rfl (by omega) (nil ?_)
      simp only [Nat.zero_add]
      exact st r (chk (by omega) ⟨⟨k + 1, by omega, by omega, by rw [← eh]; exact q.wr rfl fr (by rw [← ea]; exact y1)⟩, by first | omega | (dsimp only; omega)⟩)
    rw [← eh]
    clear hlt gk k w1 w2 w3 eh bh
    refine ⟨fun t Hx => ∃ k : Nat, t = (k : Nat) ∧ k ≤ ds[i].el ∧ Qs R Hx p1 l1 c1 p2 l2 c2 p4 l4 c4 ds, fun t _ => ((ds[i].el : Int) - t).toNat, ⟨0, rfl, Nat.zero_le _, q⟩, ?_⟩
    clear q
    rintro t H ⟨k, rfl, gk, q⟩
    refine ldL_i (q.le.rd dq.2.2.2.2) ?_
    obtain ⟨bh, eh, w1, w2, w3⟩ := q.row hi
    rw [eh]
    refine idxN i rfl (by omega) (nil ?_)
    simp only [Nat.zero_add]
    refine ldL_i w2 (bcd (fun hlt => ?_) fun hlt => ?_)
    · refine ldL_i (q.le.rd dq.2.2.2.2) ?_
      rw [eh]
      refine idxN i rfl (by omega) (nil ?_)
      simp only [Nat.zero_add]
      refine ldL_i w2 ?_
      obtain ⟨ba, v, ea, r, fr⟩ := (q.each _ hm).2.1.at (i := k * 4 + 1) (by omega)
      rw [ea]
      refine idxN k rfl (by omega) (nil ?_)
      simp only [Nat.zero_add]
      exact st r (chk (by omega) ⟨⟨k + 1, by omega, by omega, by rw [← eh]; exact q.wr rfl fr (by rw [← ea]; exact y2)⟩, by first | omega | (dsimp only; omega)⟩)
    rw [← eh]
    clear hlt gk k w1 w2 w3 eh bh
    refine ⟨fun t Hx => ∃ k : Nat, t = (k : Nat) ∧ k ≤ ds[i].kl ∧ Qs R Hx p1 l1 c1 p2 l2 c2 p4 l4 c4 ds, fun t _ => ((ds[i].kl : Int) - t).toNat, ⟨0, rfl, Nat.zero_le _, q⟩, ?_⟩
    clear q
    rintro t H ⟨k, rfl, gk, q⟩
    refine ldL_i (q.le.rd dq.2.2.2.2) ?_
    obtain ⟨bh, eh, w1, w2, w3⟩ := q.row hi
    rw [eh]
    refine idxN i rfl (by omega) (nil ?_)
    simp only [Nat.zero_add]
    refine ldL_i w3 (bcd (fun hlt => ?_) fun hlt => ?_)
    · refine ldL_i (q.le.rd dq.2.2.2.2) ?_
      rw [eh]
      refine idxN i rfl (by omega) (nil ?_)
      simp only [Nat.zero_add]
      refine ldL_i w3 ?_
      obtain ⟨ba, v, ea, r, fr⟩ := (q.each _ hm).2.2.at (i := k * 2 + 1) (by omega)
      rw [ea]
      refine idxN k rfl (by omega) (nil ?_)
      simp only [Nat.zero_add]
      exact st r (chk (by omega) ⟨⟨k + 1, by omega, by omega, by rw [← eh]; exact q.wr rfl fr (by rw [← ea]; exact y3)⟩, by first | omega | (dsimp only; omega)⟩)
    rw [← eh]
    clear hlt gk k w1 w2 w3 eh bh
    refine ldL_i (q.le.rd dq.2.2.2.2) ?_
    obtain ⟨bh, v, rfl, r, q'⟩ := q.path hi (t := [115, 112, 111, 105, 108, 116])
    refine idxN i rfl (by omega) (nil ?_)
    simp only [Nat.zero_add]
    exact st r (chk (by omega) ⟨⟨i + 1, by omega, by omega, q'⟩, by first | omega | (dsimp only; omega)⟩)
  · refine ldI_i (q.le.rd db.1) (ldL_i (q.le.rd db.2.1) (ldL_i (q.le.rd db.2.2.1) (ldL_i (q.le.rd db.2.2.2.1) (ldL_i (q.le.rd db.2.2.2.2) ?_))))
    refine ldI_i (q.le.rd dr.1) (ldL_i (q.le.rd dr.2.1) (ldL_i (q.le.rd dr.2.2.1) (ldL_i (q.le.rd dr.2.2.2.1) (ldL_i (q.le.rd dr.2.2.2.2) ?_))))
    refine patch_Same.c (hx.up q.le) (hr.up q.le) sm fun H2 le2 => bcd (fun _ => ?_) fun h => absurd rfl h
    have ly := q.le.trans le2
    refine ldI_i (ly.rd db.1) (ldL_i (ly.rd db.2.1) (ldL_i (ly.rd db.2.2.1) (ldL_i (ly.rd db.2.2.2.1) (ldL_i (ly.rd db.2.2.2.2) ?_))))
    refine ldI_i (ly.rd dr.1) (ldL_i (ly.rd dr.2.1) (ldL_i (ly.rd dr.2.2.1) (ldL_i (ly.rd dr.2.2.2.1) (ldL_i (ly.rd dr.2.2.2.2) ?_))))
    refine patch_Is.c (hx.up ly) sm fun H3 le3 => ?_
    have lz := ly.trans le3
    refine ⟨lz.rd dr.1, lz.rd dr.2.1, lz.rd dr.2.2.1, lz.rd dr.2.2.2.1, lz.rd dr.2.2.2.2, patch_Is.c (hr.up lz) sm fun H4 le4 => ?_⟩
    rw [decide_eq_true rfl]
    exact hK _ (lz.trans le4)
end
end Go.Proofs.Ytganockeifkecaa
namespace Go.Proofs.Ytganockeifkecaa
open Go.V
/-! ### Memory without some rows -/
open Classical in
noncomputable def cutL (H : Hp) (P : List (Option Addr)) : Hp := fun a => if some ⟨a, 0, none⟩ ∈ P then none else H a
section
variable {H H0 A : Hp} {P : List (Option Addr)} {s : Nat} {p : Option Addr} {l cc : Nat} {cells : List Value}
theorem cutL_in {a : Nat} (h : some ⟨a, 0, none⟩ ∈ P) : cutL H P a = none := by unfold cutL; rw [if_pos h]
theorem cutL_eq {a : Nat} (h : some ⟨a, 0, none⟩ ∉ P) : cutL H P a = H a := by unfold cutL; rw [if_neg h]
theorem cutL_le : Le (cutL H P) H := fun a c e => by
  unfold cutL at e
  split at e
  · cases e
  · exact e
theorem apIrr {b : Nat} : ¬ Apart (some ⟨b, 0, none⟩) (some ⟨b, 0, none⟩) := fun h => h b 0 0 rfl rfl
theorem cutL_buf (h : Buf s A H p l cc cells) (hp : p ∈ P) : Buf s (cutL H P) H p l cc cells := h.base fun b e _ => cutL_in (by rw [← e]; exact hp)
theorem cutL_keep (h : Buf s A H p l cc cells) (hp : ∀ q ∈ P, Apart p q) : Buf s A (cutL H P) p l cc cells :=
  ⟨h.1, h.2.imp id fun ⟨b, r, h1, h2, h3, h4⟩ => ⟨b, r, h1, h2, by rw [cutL_eq fun hm => by subst h1; exact apIrr (hp _ hm)]; exact h3, h4⟩⟩
theorem cutL_d5 {b : Nat} {id : Int} {dp mp qp hp : Option Addr} {dl dc ml mc ql qc hl hc : Nat} (h : D5 H b id dp dl dc mp ml mc qp ql qc hp hl hc) (ha : ∀ q ∈ P, Apart (some ⟨b, 0, none⟩) q) : D5 (cutL H P) b id dp dl dc mp ml mc qp ql qc hp hl hc := by
  have e : cutL H P b = H b := cutL_eq fun hm => apIrr (ha _ hm)
  have er : ∀ o, rd (cutL H P) b o = rd H b o := fun o => by unfold rd; rw [e]
  exact ⟨by rw [er]; exact h.1, by rw [er]; exact h.2.1, by rw [er]; exact h.2.2.1, by rw [er]; exact h.2.2.2.1, by rw [er]; exact h.2.2.2.2⟩
theorem cutL_of (h : Le H0 H) (hn : ∀ q ∈ P, New H0 q) : Le H0 (cutL H P) := fun a c e => by
  rw [cutL_eq fun hm => by rw [hn _ hm a 0 rfl] at e; cases e]; exact h a c e
end
section
variable {A H H' : Hp} {id : Int} {dp mp qp hp : Option Addr} {dl dc ml mc ql qc hl hc : Nat} {x : Pt} {zs : List (BL × HD)}
def ptrs (dp mp qp hp : Option Addr) (zs : List (BL × HD)) : List (Option Addr) := dp :: mp :: qp :: hp :: zs.flatMap hdP
theorem Own.each (h : Own A H id dp dl dc mp ml mc qp ql qc hp hl hc x zs) : ∀ q ∈ ptrs dp mp qp hp zs, ∃ s l c cells, Buf s A H q l c cells := by
  obtain ⟨_, h1, h2, h3, ⟨hz, h4, h5⟩, _⟩ := h
  intro q hq
  simp only [ptrs, List.mem_cons, List.mem_flatMap] at hq
  rcases hq with rfl | rfl | rfl | rfl | ⟨z, hz', hq⟩
  · exact ⟨_, _, _, _, h1⟩
  · exact ⟨_, _, _, _, h2⟩
  · exact ⟨_, _, _, _, h3⟩
  · exact ⟨_, _, _, _, h4⟩
  · obtain ⟨i, hi, rfl⟩ := List.mem_iff_getElem.1 hz'
    obtain ⟨_, g1, g2, g3⟩ := h5 i (by omega) hi
    simp only [hdP, List.mem_cons, List.not_mem_nil, or_false] at hq
    rcases hq with rfl | rfl | rfl
    · exact ⟨_, _, _, _, g1⟩
    · exact ⟨_, _, _, _, g2⟩
    · exact ⟨_, _, _, _, g3⟩
theorem Own.fr (h : Own A H id dp dl dc mp ml mc qp ql qc hp hl hc x zs) : ∀ q ∈ ptrs dp mp qp hp zs, New A q := fun q hq => by
  obtain ⟨_, _, _, _, hB⟩ := h.each q hq
  exact hB.fr
theorem Own.there (h : Own A H id dp dl dc mp ml mc qp ql qc hp hl hc x zs) : ∀ q ∈ ptrs dp mp qp hp zs, There H q := fun q hq => by
  obtain ⟨_, _, _, _, hB⟩ := h.each q hq
  exact bThere hB
theorem Own.up (h : Own A H id dp dl dc mp ml mc qp ql qc hp hl hc x zs) (hl' : Le H H') : Own A H' id dp dl dc mp ml mc qp ql qc hp hl hc x zs :=
  ⟨h.1, h.2.1.le hl', h.2.2.1.le hl', h.2.2.2.1.le hl', ⟨h.2.2.2.2.1.1, h.2.2.2.2.1.2.1.le hl', fun j h1 h2 => ⟨(h.2.2.2.2.1.2.2 j h1 h2).1, (h.2.2.2.2.1.2.2 j h1 h2).2.le hl'⟩⟩, h.2.2.2.2.2⟩
theorem Own.keep {P : List (Option Addr)} (h : Own A H id dp dl dc mp ml mc qp ql qc hp hl hc x zs) (ha : ∀ p ∈ ptrs dp mp qp hp zs, ∀ q ∈ P, Apart p q) : Own A (cutL H P) id dp dl dc mp ml mc qp ql qc hp hl hc x zs := by
  obtain ⟨h0, h1, h2, h3, ⟨hz, h4, h5⟩, h6⟩ := h
  refine ⟨h0, cutL_keep h1 (ha _ (by simp [ptrs])), cutL_keep h2 (ha _ (by simp [ptrs])), cutL_keep h3 (ha _ (by simp [ptrs])), ⟨hz, cutL_keep h4 (ha _ (by simp [ptrs])), fun j g1 g2 => ⟨(h5 j g1 g2).1, ?_⟩⟩, h6⟩
  have hm : ∀ q ∈ hdP zs[j], q ∈ ptrs dp mp qp hp zs := fun q hq => by
    unfold ptrs
    exact List.mem_append_right [dp, mp, qp, hp] (List.mem_flatMap.2 ⟨_, List.getElem_mem g2, hq⟩)
  exact ⟨cutL_keep (h5 j g1 g2).2.1 (ha _ (hm _ (by simp [hdP]))), cutL_keep (h5 j g1 g2).2.2.1 (ha _ (hm _ (by simp [hdP]))), cutL_keep (h5 j g1 g2).2.2.2 (ha _ (hm _ (by simp [hdP])))⟩
theorem Own.modA {b : Nat} (h : Own A H id dp dl dc mp ml mc qp ql qc hp hl hc x zs) (hm : Mod [b] H H') (ha : ∀ p ∈ ptrs dp mp qp hp zs, Apart (some ⟨b, 0, none⟩) p) : Own A H' id dp dl dc mp ml mc qp ql qc hp hl hc x zs := by
  obtain ⟨h0, h1, h2, h3, ⟨hz, h4, h5⟩, h6⟩ := h
  refine ⟨h0, bModA h1 hm (ha _ (by simp [ptrs])), bModA h2 hm (ha _ (by simp [ptrs])), bModA h3 hm (ha _ (by simp [ptrs])), ⟨hz, bModA h4 hm (ha _ (by simp [ptrs])), fun j g1 g2 => ⟨(h5 j g1 g2).1, (h5 j g1 g2).2.mod (z := zs[j]) hm fun q hq => ha q ?_⟩⟩, h6⟩
  unfold ptrs
  exact List.mem_append_right [dp, mp, qp, hp] (List.mem_flatMap.2 ⟨_, List.getElem_mem g2, hq⟩)
theorem Ok.own {L : List (Option Addr)} (h : Ok A L) (o : Own A H id dp dl dc mp ml mc qp ql qc hp hl hc x zs) (hle : Le A H) : Ok H (L ++ ptrs dp mp qp hp zs) :=
  ⟨List.pairwise_append.2 ⟨h.1, o.2.2.2.2.2, fun a ha b hb => apThere (h.2 a ha) (o.fr b hb)⟩, fun q hq => (List.mem_append.1 hq).elim (fun hq => (h.2 q hq).was hle.was) fun hq => o.there q hq⟩
theorem Ok.perm {L L' : List (Option Addr)} (h : Ok H L) (hp : L.Perm L') : Ok H L' := ⟨(hp.pairwise_iff fun h => h.symm).1 h.1, fun q hq => h.2 q (hp.mem_iff.2 hq)⟩
theorem Ok.blk {L : List (Option Addr)} {b : Nat} (h : Ok A L) (hb : A b = none) (hl : Le A H) (ht : H b ≠ none) : Ok H (L ++ [some ⟨b, 0, none⟩]) :=
  h.snoc (New.some hb) (fun b' o e => by simp only [Option.some.injEq, Addr.mk.injEq] at e; obtain ⟨rfl, _⟩ := e; exact ht) hl
end
end Go.Proofs.Ytganockeifkecaa
namespace Go.Proofs.Ytganockeifkecaa
open Go.V
/-! ### A patch spoilt -/
theorem isB_id {x : Pt} (h : isB x = true) : ¬ x.id = 0 := by
  simp only [isB, Bool.and_eq_true, decide_eq_true_eq] at h
  exact h.1
theorem isB_of {x : Pt} (h : isB x = true) : pathsB x.makes = true ∧ pathsB x.drops = true ∧ depsB x = true ∧ hunksB x.id 0 [] x.hunks = true := by
  simp only [isB, Bool.and_eq_true] at h
  exact ⟨h.2.2.1, h.2.2.2.1, h.2.2.2.2.1, h.2.2.2.2.2.2⟩
theorem hunksB_each {id : Int} : ∀ {hs : List Hk} {fr : Int} {last : BL}, hunksB id fr last hs = true → ∀ h ∈ hs, ∃ fr', hunkB id fr' h = true
  | [], _, _, _, h, hh => by simp at hh
  | g :: r, fr, last, e, h, hh => by
    simp only [hunksB, Bool.and_eq_true] at e
    rcases List.mem_cons.1 hh with rfl | hh
    · exact ⟨fr, e.2.2.1⟩
    · exact hunksB_each e.2.2.2 h hh
theorem notB {x : Pt} (h : isB x = true → False) : isB x = false := by
  cases e : isB x with
  | false => rfl
  | true => exact (h e).elim
theorem spoil0 (x : Pt) : isB { x with id := 0 } = false := notB fun h => isB_id h rfl
theorem spoil1 (x : Pt) : isB { x with deps := x.deps ++ [x.id] } = false := notB fun h => by
  have := (isB_of h).2.2.1
  simp only [depsB, Bool.and_eq_true, Bool.not_eq_true', decide_eq_false_iff_not] at this
  exact this.2.2.2.1 (by simp)
theorem spoil2 (x : Pt) : isB { x with makes := x.makes ++ [[66]] } = false := notB fun h => by
  have := (isB_of h).1
  simp only [pathsB, Bool.and_eq_true, List.all_eq_true] at this
  have := this.2.2 [66] (by simp)
  revert this; decide
theorem spoil3 (x : Pt) : isB { x with drops := x.drops ++ [[97], [97]] } = false := notB fun h => by
  have := (isB_of h).2.1
  simp only [pathsB, Bool.and_eq_true] at this
  have h2 := this.2.1
  rw [rsB_pw ltStr_tr] at h2
  have h3 := (List.pairwise_append.1 h2).2.1
  have h4 := (List.pairwise_cons.1 h3).1 [97] (by simp)
  rw [ltStr_irr] at h4; cases h4
theorem spoilH (x : Pt) {hs : List Hk} {h : Hk} (hm : h ∈ hs) (hb : ∀ fr, hunkB x.id fr h = false) : isB { x with hunks := hs } = false := notB fun e => by
  obtain ⟨fr, h2⟩ := hunksB_each (isB_of e).2.2.2 h hm
  rw [hb fr] at h2; cases h2
theorem spoil4 (id fr : Int) (h : Hk) : hunkB id fr { h with adds := h.adds ++ [[]] } = false := by
  have : (h.adds ++ [[]]).all lineB = false := List.all_eq_false.2 ⟨[], by simp, by decide⟩
  unfold hunkB
  simp only [this, Bool.false_and, Bool.and_false]
theorem spoil5 (id fr : Int) (h : Hk) (y : Lid) : hunkB id fr { h with edges := h.edges ++ [⟨y, y⟩] } = false := by
  have : ((h.edges ++ [(⟨y, y⟩ : Ed)]).all fun e => namedB id fr h.adds.length e.a && (namedB id fr h.adds.length e.b && decide (¬ e.a = e.b))) = false := List.all_eq_false.2 ⟨⟨y, y⟩, by simp, by simp⟩
  unfold hunkB
  simp only [this, Bool.false_and, Bool.and_false]
theorem len_ne {α : Type} {a b : List α} (h : a.length ≠ b.length) : ¬ a = b := fun e => h (by rw [e])
end Go.Proofs.Ytganockeifkecaa
