/- For every input DiskKeeps returns true, and what came in reads as it did: no condition. -/
import Derived.Test.YtjfohhgmapipnaaT6
import Derived.Test.YtjfohhgmapipnaaVcLift
import Derived.Test.YtjfohhgmapipnaaVcOpen
import Derived.Test.YtjfohhgmapipnaaRows
namespace Go.Proofs.Ytjfohhgmapipnaa
open Go.V
open Go.ChangeShapes Go.WideShapes Go.ChangeAt Go.RowKit
theorem keepF_append (f : Nat → Bool) (x : Nat × BL) : ∀ (k : Nat) (l : List BL) (w : List (Nat × BL)), keepF f k l (w ++ [x]) = if f (k + w.length) then (keepF f k l w).set x.1 x.2 else keepF f k l w
  | k, l, [] => by simp [keepF]
  | k, l, y :: w => by
    rw [List.cons_append, keepF, keepF_append f x (k + 1), keepF, List.length_cons, show k + 1 + w.length = k + (w.length + 1) by omega]
theorem rd_repU {H : Hp} {b n k : Nat} {tl : List Value} {z : Value} (h : k < n) (hz : isCell z = true := by rfl) : rd (upd H b (rep n [z] ++ tl)) b k = some z := by
  rw [rd_upd_self, List.getElem?_append_left (by simp [rep]; exact h)]
  show ((List.replicate n z)[k]?).bind nmO = some z
  rw [List.getElem?_replicate, if_pos h]; exact nm_cell hz
theorem btsU {H : Hp} {b n : Nat} {tl : List Value} {F : ByteArray → Prop} (hF : F (mkB (List.replicate n 0))) : BTS (upd H b (rep n [.int .u8 (0 : Int)] ++ tl)) (some ⟨b, 0, none⟩) n F := by
  refine ⟨List.replicate n 0, by simp, fun i x hx => ?_, hF⟩
  rw [List.getElem?_replicate] at hx
  split at hx
  · rename_i hi
    rw [Nat.zero_add, rd_repU hi, ← Option.some.inj hx]; rfl
  · cases hx
/-- string([]byte{x, y}). -/
theorem bts2 {H : Hp} {b : Nat} {x y : UInt8} {tl : List Value} {F : ByteArray → Prop} (hF : F (mkB [x, y])) : BTS (upd H b ([.int .u8 (x.toNat : Nat), .int .u8 (y.toNat : Nat)] ++ tl)) (some ⟨b, 0, none⟩) 2 F := by
  refine ⟨[x, y], rfl, fun i z hz => ?_, hF⟩
  rw [Nat.zero_add, rd_upd_self]
  match i, hz with
  | 0, hz => simp at hz; subst hz; rfl
  | 1, hz => simp at hz; subst hz; rfl
  | i + 2, hz => simp at hz
/-- What is to be there, in block b. -/
def Wants (H : Hp) (b : Nat) (W : List BL) : Prop := W.length = 8 ∧ (∀ x ∈ W, x.length ≤ 64) ∧ ∀ j (hj : j < W.length), rd H b j = some (sv W[j])
theorem Wants.mod {H H' : Hp} {b : Nat} {W : List BL} {O : List Nat} (h : Wants H b W) (hm : Mod O H H') (hb : b ∉ O) : Wants H' b W := ⟨h.1, h.2.1, fun j hj => hm.rd hb (h.2.2 j hj)⟩
theorem Wants.set {H : Hp} {b : Nat} {W : List BL} (h : Wants H b W) {j : Nat} (hj : j < 8) {x : BL} (hx : x.length ≤ 64) : Wants (wr H b j (sv x)) b (W.set j x) := by
  refine ⟨by simpa using h.1, fun y hy => ?_, fun i hi => ?_⟩
  · rcases List.mem_or_eq_of_mem_set hy with hy | rfl
    · exact h.2.1 y hy
    · exact hx
  · have hj' : j < W.length := by rw [h.1]; exact hj
    rw [List.getElem_set]
    by_cases e : j = i
    · subst e
      rw [if_pos rfl]
      exact rd_wr_self (h.2.2 j hj')
    · rw [if_neg e, rd_wr_off (Ne.symm e)]
      exact h.2.2 i (by simpa using hi)
theorem u8_of {x : Int} (h : (Lit.int .u8 x).wf = true) : ∃ y : UInt8, x = ((y.toNat : Nat) : Int) := by
  have := wf_u8 h
  refine ⟨UInt8.ofNat x.toNat, ?_⟩
  rw [UInt8.toNat_ofNat_of_lt' (show x.toNat < 256 by omega)]; omega
theorem mod8 {y : UInt8} : Int.tmod ((y.toNat : Nat) : Int) 8 = ((y.toNat % 8 : Nat) : Int) := by
  rw [show (8 : Int) = ((8 : Nat) : Int) from rfl, tmodN (by omega), Int.toNat_natCast]
theorem diskKeeps_law {ap bp : Option Addr} {al ac bl bc' : Nat} {xa xb : List Int} {keep : Int} {H : Hp} (ha : Sl (.int .u8) H ap al ac xa) (wa : ∀ x ∈ xa, (Lit.int .u8 x).wf = true) (hb : Sl (.int .u8) H bp bl bc' xb) (wb : ∀ x ∈ xb, (Lit.int .u8 x).wf = true) (wk : (Lit.int .u64 keep).wf = true) :
    centolaw19_DiskKeeps.C ap al ac bp bl bc' keep H fun r H' => r = true ∧ Le H H' := by
  apply centolaw19_DiskKeeps.of
  have ea := ha.len
  have eb := hb.len
  have bk : 0 ≤ keep ∧ keep ≤ 18446744073709551615 := by
    simp [Lit.wf, IntKind.min, IntKind.max, IntKind.signed, IntKind.bits] at wk; omega
  obtain ⟨kp, rfl⟩ : ∃ kp : Nat, keep = kp := ⟨keep.toNat, by omega⟩
  refine centolaw19_known.c fun H0 le0 => ?_
  refine bcn (fun h => by cases h) fun _ => bcd (fun _ => ⟨rfl, le0⟩) fun la => bcd (fun _ => ⟨rfl, le0⟩) fun lb => ?_
  unfold centolaw19_DiskKeeps.k1
  refine sector_New.c fun H1 d O1 h1 le1 o1 => ?_
  intro q hq
  have le01 := le0.trans le1
  have o1' : ∀ x ∈ O1, H x = none := fun x hx => none_of_le le0 (o1 x hx)
  have hqH : H q = none := none_of_le le01 hq
  have W0 : Wants (upd H1 q [.string .empty, .string .empty, .string .empty, .string .empty, .string .empty, .string .empty, .string .empty, .string .empty]) q (List.replicate 8 []) := by
    refine ⟨rfl, by simp, fun j hj => ?_⟩
    rw [rd_upd_self]
    match j, hj with
    | 0, _ => rfl | 1, _ => rfl | 2, _ => rfl | 3, _ => rfl | 4, _ => rfl | 5, _ => rfl | 6, _ => rfl | 7, _ => rfl
  have hqO : q ∉ O1 := fun hx => h1.there q hx hq
  have h2 := h1.le (Le.upd (c := [.string .empty, .string .empty, .string .empty, .string .empty, .string .empty, .string .empty, .string .empty, .string .empty]) hq)
  have le02 := le01.trans (Le.upd (c := [.string .empty, .string .empty, .string .empty, .string .empty, .string .empty, .string .empty, .string .empty, .string .empty]) hq)
  generalize upd H1 q [.string .empty, .string .empty, .string .empty, .string .empty, .string .empty, .string .empty, .string .empty, .string .empty] = H2 at W0 h2 le02
  -- what stands while the writes go on
  refine ⟨fun i H' => ∃ (j : Nat) (O : List Nat) (s : DS) (W : List BL), i = (j : Nat) ∧ j ≤ al ∧ Dk H' d O s ∧ Wants H' q W ∧ q ∉ O ∧ Le H H' ∧ (∀ x ∈ O, H x = none) ∧ s.left = none ∧ s.l.length = 8 ∧ s.n = j ∧ keepF (fun _ => true) 0 s.l s.w = W.map pad, fun i _ => ((al : Int) - i).toNat,
    ⟨0, O1, _, _, rfl, Nat.zero_le _, h2, W0, hqO, le02, o1', rfl, by decide, rfl, by kernel_rfl⟩, ?_⟩
  rintro i H3 ⟨j, O, s, W, rfl, g1, h3, W3, hqO3, le3, o3, hleft, hl, hn, hk⟩
  have on : s.on := by unfold DS.on; rw [hleft]; simp
  refine bcd (fun hj => ?_) (fun hj => ?_)
  · have ha3 := ha.le le3
    obtain ⟨y, hy⟩ := u8_of (wa _ (List.getElem_mem (l := xa) (n := j) (by omega)))
    refine slI ha3 (fun _ => rfl) (by omega) hj fun hi => ?_
    simp only [Int.toNat_natCast]
    rw [hy]
    intro b6 hb6
    refine bts2 (x := y) (y := 1) ?_
    have le4 : Le H3 (upd H3 b6 ([.int .u8 (y.toNat : Nat), .int .u8 (1 : Int)] ++ [tyM ty_uint8 0 0])) := Le.upd hb6
    generalize upd H3 b6 ([.int .u8 (y.toNat : Nat), .int .u8 (1 : Int)] ++ [tyM ty_uint8 0 0]) = H4 at le4
    refine slI (ha3.le le4) (fun _ => rfl) (by omega) hj fun hi => ⟨by decide, ?_⟩
    simp only [Int.toNat_natCast]
    rw [hy, mod8]
    have hm8 : y.toNat % 8 < 8 := Nat.mod_lt _ (by decide)
    refine chk (by omega) ?_
    refine sector_Disk_Write.c (b := [y, 1]) (h3.le le4) (by omega) fun H5 O5 h5 m5 g5 => ?_
    have le5 := m5.le (le3.trans le4) o3
    have o5 := own_grow (le3.trans le4) o3 g5
    have hqH4 : H4 q ≠ none := ne_none_of_rd (le4.rd (W3.2.2 0 (by rw [W3.1]; decide)))
    have hqO5 := not_own hqH4 hqO3 g5
    have W5 := (W3.mod (O := []) le4.mod (by simp)).mod m5 hqO3
    refine slI (ha.le le5) (fun _ => rfl) (by omega) hj fun hi => ⟨by decide, ?_⟩
    simp only [Int.toNat_natCast]
    rw [hy, mod8]
    refine idxN (y.toNat % 8) rfl hm8 ?_
    rw [Nat.zero_add]
    have hj8 : y.toNat % 8 < W.length := by rw [W3.1]; exact hm8
    refine st (W5.2.2 _ hj8) (chk (by omega) ⟨⟨j + 1, O5, _, W.set (y.toNat % 8) [y, 1], by omega, by omega, h5.mod (P := [q]) (Mod.refl.wr (.inl (by simp))) (fun x hx hx' => by simp at hx'; subst hx'; exact hqO5 hx), W5.set hm8 (by simp), hqO5, le5.wr hqH, o5, ?_, ?_, ?_, ?_⟩, by first | omega | (dsimp only; omega)⟩)
    · rw [DS.write_left, if_pos on, hleft]; rfl
    · rw [DS.write_len, hl]
    · rw [DS.write_n, if_pos on, hn]
    · have e : s.write ((y.toNat % 8 : Nat) : Int) [y, 1] = { s.step with w := s.w ++ [(y.toNat % 8, pad [y, 1])] } := by
        unfold DS.write
        rw [if_pos on, if_pos (show s.fits ((y.toNat % 8 : Nat) : Int) ∧ ([y, 1] : BL).length ≤ 64 from ⟨⟨by omega, by rw [hl]; omega⟩, by simp⟩), Int.toNat_natCast]
      rw [e]
      show keepF _ 0 s.l (s.w ++ _) = _
      rw [keepF_append, if_pos rfl, hk, List.map_set]
  have hjl : j = al := by omega
  subst hjl
  refine sector_Disk_Flush.c h3 (by omega) fun H4 O4 h4 m4 g4 => ?_
  have le4 := m4.le le3 o3
  have o4 := own_grow le3 o3 g4
  have hqO4 := not_own (ne_none_of_rd (W3.2.2 0 (by rw [W3.1]; decide))) hqO3 g4
  have W4 := W3.mod m4 hqO3
  have e4 : s.flush = { s.step with l := W.map pad, w := [] } := by unfold DS.flush; rw [if_pos on, hk]
  rw [e4] at h4
  refine ⟨fun i H' => ∃ (t : Nat) (O : List Nat) (s : DS) (W' : List BL), i = (t : Nat) ∧ t ≤ bl ∧ Dk H' d O s ∧ Wants H' q W' ∧ q ∉ O ∧ Le H H' ∧ (∀ x ∈ O, H x = none) ∧ s.left = none ∧ s.l.length = 8 ∧ s.n = j + 1 + t ∧ s.w.length = t ∧ keepF (kept kp) 0 s.l s.w = W'.map pad, fun i _ => ((bl : Int) - i).toNat,
    ⟨0, O4, _, W, rfl, Nat.zero_le _, h4, W4, hqO4, le4, o4, by show s.left.map _ = none; rw [hleft]; rfl, by show (W.map pad).length = 8; rw [List.length_map, W3.1], by show s.n + 1 = _; omega, rfl, rfl⟩, ?_⟩
  clear h4 W4 hqO4 le4 o4 e4 hk hn hl on hleft g4 m4 W3 hqO3 le3 o3 h3
  rintro i H3 ⟨t, O, s, W, rfl, g1, h3, W3, hqO3, le3, o3, hleft, hl, hn, hwl, hk⟩
  have on : s.on := by unfold DS.on; rw [hleft]; simp
  refine bcd (fun hj => ?_) (fun hj => ?_)
  · have hb3 := hb.le le3
    obtain ⟨y, hy⟩ := u8_of (wb _ (List.getElem_mem (l := xb) (n := t) (by omega)))
    refine slI hb3 (fun _ => rfl) (by omega) hj fun hi => ?_
    simp only [Int.toNat_natCast]
    rw [hy]
    intro b6 hb6
    refine bts2 (x := y) (y := 2) ?_
    have le4 : Le H3 (upd H3 b6 ([.int .u8 (y.toNat : Nat), .int .u8 (2 : Int)] ++ [tyM ty_uint8 0 0])) := Le.upd hb6
    generalize upd H3 b6 ([.int .u8 (y.toNat : Nat), .int .u8 (2 : Int)] ++ [tyM ty_uint8 0 0]) = H4 at le4
    refine slI (hb3.le le4) (fun _ => rfl) (by omega) hj fun hi => ⟨by decide, ?_⟩
    simp only [Int.toNat_natCast]
    rw [hy, mod8]
    have hm8 : y.toNat % 8 < 8 := Nat.mod_lt _ (by decide)
    refine chk (by omega) ?_
    refine sector_Disk_Write.c (b := [y, 2]) (h3.le le4) (by omega) fun H5 O5 h5 m5 g5 => ?_
    have le5 := m5.le (le3.trans le4) o3
    have o5 := own_grow (le3.trans le4) o3 g5
    have hqH4 : H4 q ≠ none := ne_none_of_rd (le4.rd (W3.2.2 0 (by rw [W3.1]; decide)))
    have hqO5 := not_own hqH4 hqO3 g5
    have W5 := (W3.mod (O := []) le4.mod (by simp)).mod m5 hqO3
    have e : s.write ((y.toNat % 8 : Nat) : Int) [y, 2] = { s.step with w := s.w ++ [(y.toNat % 8, pad [y, 2])] } := by
      unfold DS.write
      rw [if_pos on, if_pos (show s.fits ((y.toNat % 8 : Nat) : Int) ∧ ([y, 2] : BL).length ≤ 64 from ⟨⟨by omega, by rw [hl]; omega⟩, by simp⟩), Int.toNat_natCast]
    have f1 : (s.write ((y.toNat % 8 : Nat) : Int) [y, 2]).left = none := by rw [DS.write_left, if_pos on, hleft]; rfl
    have f2 : (s.write ((y.toNat % 8 : Nat) : Int) [y, 2]).l.length = 8 := by rw [DS.write_len, hl]
    have f3 : (s.write ((y.toNat % 8 : Nat) : Int) [y, 2]).n = j + 1 + (t + 1) := by rw [DS.write_n, if_pos on, hn]; omega
    have f4 : (s.write ((y.toNat % 8 : Nat) : Int) [y, 2]).w.length = t + 1 := by rw [e]; show (s.w ++ _).length = _; rw [List.length_append, hwl]; rfl
    have f5 : keepF (kept kp) 0 (s.write ((y.toNat % 8 : Nat) : Int) [y, 2]).l (s.write ((y.toNat % 8 : Nat) : Int) [y, 2]).w = if kp.testBit t then (W.map pad).set (y.toNat % 8) (pad [y, 2]) else W.map pad := by
      rw [e]
      show keepF _ 0 s.l (s.w ++ _) = _
      rw [keepF_append, hk, Nat.zero_add, hwl, show kept kp t = kp.testBit t by unfold kept; rw [decide_eq_true (by omega), Bool.true_and]]
    rw [show IntKind.wrap .u64 ((t : Nat) : Int) = ((t : Nat) : Int) from u64w (by omega)]
    refine ⟨by omega, ?_⟩
    rw [bit_test (a := kp) (k := t) (by omega) (by omega)]
    cases hbit : kp.testBit t with
    | true =>
      rw [hbit, if_pos rfl] at f5
      refine bcT (slI (hb.le le5) (fun _ => rfl) (by omega) hj fun hi => ⟨by decide, ?_⟩)
      simp only [Int.toNat_natCast]
      rw [hy, mod8]
      refine idxN (y.toNat % 8) rfl hm8 ?_
      rw [Nat.zero_add]
      have hj8 : y.toNat % 8 < W.length := by rw [W3.1]; exact hm8
      exact st (W5.2.2 _ hj8) (chk (by omega) ⟨⟨t + 1, O5, _, W.set (y.toNat % 8) [y, 2], by omega, by omega, h5.mod (P := [q]) (Mod.refl.wr (.inl (by simp))) (fun x hx hx' => by simp at hx'; subst hx'; exact hqO5 hx), W5.set hm8 (by simp), hqO5, le5.wr hqH, o5, f1, f2, f3, f4, by rw [f5, List.map_set]⟩, by first | omega | (dsimp only; omega)⟩)
    | false =>
      rw [hbit, if_neg (by decide)] at f5
      exact bcF (chk (by omega) ⟨⟨t + 1, O5, _, W, by omega, by omega, h5, W5, hqO5, le5, o5, f1, f2, f3, f4, f5⟩, by first | omega | (dsimp only; omega)⟩)
  have hjt : t = bl := by omega
  subst hjt
  refine sector_Disk_Crash.c h3 (by omega) (by omega) fun H4 O4 h4 m4 g4 => ?_
  have le4 := m4.le le3 o3
  have W4 := W3.mod m4 hqO3
  have e4 : s.crash kp = { s with l := W.map pad, w := [], left := none } := by unfold DS.crash; rw [hk]
  rw [e4] at h4
  generalize hs5 : ({ s with l := W.map pad, w := [], left := none } : DS) = s5 at h4
  have on5 : s5.on := by rw [← hs5]; unfold DS.on; simp
  have hl5 : s5.l = W.map pad := by rw [← hs5]
  have hw5 : s5.w = [] := by rw [← hs5]
  have hn5 : s5.n = j + 1 + t := by rw [← hs5]; exact hn
  refine ⟨fun i H' => ∃ r : Nat, i = (r : Nat) ∧ r ≤ 8 ∧ Le H4 H', fun i _ => (8 - i).toNat, ⟨0, rfl, by omega, Le.refl _⟩, ?_⟩
  rintro i H5 ⟨r, rfl, gr, le5⟩
  have h5 := h4.le le5
  refine bcd (fun hr => ?_) (fun hr => ?_)
  · refine sector_Disk_Read.c h5 (by rw [hw5]; exact Nat.zero_le _) fun H6 le6 => ?_
    have hr8 : r < W.length := by rw [W3.1]; omega
    have hfit : s5.fits ((r : Nat) : Int) := ⟨by omega, by rw [hl5, List.length_map]; omega⟩
    have hre : s5.readE ((r : Nat) : Int) = 0 := by unfold DS.readE; rw [if_pos on5, if_pos hfit]
    have hrd : s5.read ((r : Nat) : Int) = pad W[r] := by
      unfold DS.read
      rw [if_pos on5, if_pos hfit, hw5, hl5, Int.toNat_natCast]
      simp [lastW, List.getD, hr8]
    rw [hre, hrd]
    refine bcd (fun h => absurd rfl h) fun _ => ?_
    have W6 := W4.mod (O := []) (le5.trans le6).mod (by simp)
    refine idxN r rfl (by omega) ?_
    rw [Nat.zero_add]
    refine ldS_i (W6.2.2 r hr8) (idxN r rfl (by omega) ?_)
    rw [Nat.zero_add]
    refine ldS_i (W6.2.2 r hr8) ?_
    rw [sv_size]
    have hwr := W3.2.1 W[r] (List.getElem_mem hr8)
    refine chk (by omega) (mk (n := 64 - W[r].length) (by omega) (by omega) (by omega) fun b7 hb7 => ?_)
    have le7 : Le H6 (upd H6 b7 (rep (64 - W[r].length) [.int .u8 0] ++ [tyM ty_uint8 0 0])) := Le.upd hb7
    refine ⟨le7.rd (W6.2.2 r hr8), btsU ⟨le7.rd (W6.2.2 r hr8), ?_⟩⟩
    rw [sv_size, List.length_replicate]
    have epad : mkB W[r] ++ mkB (List.replicate (64 - W[r].length) 0) = mkB (pad W[r]) := L_inj (by rw [L_append]; rfl)
    rw [epad]
    refine ⟨by omega, bcd (fun h => absurd rfl h) fun _ => chk (by omega) ⟨⟨r + 1, by omega, by omega, (le5.trans le6).trans le7⟩, by first | omega | (dsimp only; omega)⟩⟩
  · refine sector_Disk_Steps.c h5 (chk (by omega) (chk (by omega) ⟨decide_eq_true ?_, le4.trans le5⟩))
    rw [hn5]; omega

theorem diskKeeps_own : ownKnob Try.prog.godebug = none := by kernel_rfl
theorem diskKeeps_laid : laidOutB Try.prog = true := by kernel_rfl
set_option maxRecDepth 100000 in
theorem diskKeeps_lifted (os : Os) (started : os.Started) (H : Type) (enc : TypeId × Value → H) :
    ReturnsInHanded {} Try.checked os 7 .any (Rows.diskKeepsSpec.pre6 enc Try.prog Try.f7 Rows.diskKeepsRow.domain false) (Rows.diskKeepsSpec.post enc Try.prog Try.f7 false true false false) := by
  refine returnsInHanded_of_change (C := Try.checked) diskKeeps_own started (by kernel_rfl) Try.func7
    (ChangeSpec.witness6 (enc := enc) (C := Try.checked) false ⟨#[], #[.slice Option.none 0 0, .slice Option.none 0 0, .int .u64 0], []⟩ 8 (by kernel_rfl) (by kernel_rfl) (by kernel_rfl) (by kernel_rfl)) ?_
  intro W base args ds gs before hval0 hW hcnd _
  have hval : ∀ (j : Nat) t v, Try.f7.params[j]? = some t → args[j]? = some v → Value.okWide Try.prog W .any base t v := hval0
  have hW' := hW
  obtain ⟨p, q, hA0, hV, rfl, hfz, hnd⟩ := hW
  have hA : DataW.TrodAll enc Try.prog W 0 (fun _ => true) true Try.f7.params.toList args.toList ds p := hA0
  rw [Try.params7] at hA hval
  obtain ⟨v0, v1, v2, d0, d1, d2, p0, p1, p2, rfl, rfl, rfl, h0, h1, h2⟩ := trodAll_three hA
  obtain ⟨q0, l0, c0, x0, rfl, s0⟩ := openSl (by decide) Try.underlying30 (opens_int Try.underlying5 (by kernel_rfl)) (hval 0 30 v0 rfl rfl) h0 (fun x hx => by simp [hx]) hfz
  obtain ⟨q1, l1, c1, x1, rfl, s1⟩ := openSl (by decide) Try.underlying30 (opens_int Try.underlying5 (by kernel_rfl)) (hval 1 30 v1 rfl rfl) h1 (fun x hx => by simp [hx]) hfz
  obtain ⟨x2, rfl, rfl, rfl, w2⟩ := open_int Try.underlying33 (hval 2 33 v2 rfl rfl) h2
  refine (calls_true (diskKeeps_law s0.ints s0.wf s1.ints s1.wf w2) Try.func7 (by kernel_rfl)).mono fun e W' ⟨he, hk⟩ => ?_
  subst he
  exact ⟨_, rfl, post_true diskKeeps_laid hW' (by kernel_rfl) rfl rfl rfl Try.underlying4 hk⟩

theorem diskKeeps_holds : Rows.DiskKeepsSaid :=
  OpenClaim.holds_of_wide 7 Try.f7 rfl rfl rfl rfl rfl rfl rfl ⟨rfl, rfl, rfl, rfl, rfl⟩ rfl rfl rfl rfl rfl (by kernel_rfl) Try.func7 (by kernel_rfl)
    (of_decide_eq_true (by kernel_rfl)) (by unfold Func.isWrapper; first | (rw [if_pos (by decide +kernel)]; kernel_rfl) | (rw [if_neg (by decide +kernel)]; exact ⟨rfl, rfl⟩))
    (fun os started H enc _ => diskKeeps_lifted os started H enc)

end Go.Proofs.Ytjfohhgmapipnaa
