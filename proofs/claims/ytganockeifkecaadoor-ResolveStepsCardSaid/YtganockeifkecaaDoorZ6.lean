/- Contracts and plain laws that the claim rests on, for every input: no condition. -/
import Derived.Test.YtganockeifkecaaDoorZ5
import Derived.Test.YtganockeifkecaaDoorTie
import Derived.Test.YtganockeifkecaaDoorCards
import Derived.LaidMore
import Derived.OpenShut
import Derived.SevenTiedAt
import Derived.MakeChecks
import Derived.Handed
import Derived.LaidLaws
namespace Go.Proofs.YtganockeifkecaaDoor
open Go.V
/-! ### A file with a hunk's edges and kills -/
def kilL (ls : List Ln) (i : Nat) : List Ln := ls.set i { ls.getD i ⟨0, 0, [], true⟩ with d := true }
def wLs (l0 ls : List Ln) (ks : List Lid) : List Ln := ks.foldl (fun l k => kilL l (atZ l0 k).toNat) ls
def wPs (ls : List Ln) (ps : List (Int × Int)) (es : List Ed) : List (Int × Int) := ps ++ es.map fun e => (atZ ls e.a, atZ ls e.b)
theorem wLs_len (l0 : List Ln) : ∀ (ks : List Lid) (ls : List Ln), (wLs l0 ls ks).length = ls.length
  | [], _ => rfl
  | k :: ks, ls => by
    show (wLs l0 (kilL ls (atZ l0 k).toNat) ks).length = _
    rw [wLs_len l0 ks]; simp [kilL]
theorem wLs_snoc (l0 ls : List Ln) (ks : List Lid) (k : Lid) : wLs l0 ls (ks ++ [k]) = kilL (wLs l0 ls ks) (atZ l0 k).toNat := by unfold wLs; rw [List.foldl_append]; rfl
theorem map_sn {α β : Type} {f : α → β} {xs : List α} {i : Nat} (hi : i < xs.length) : (xs.take (i + 1)).map f = (xs.take i).map f ++ [f xs[i]] := by rw [List.take_succ_eq_append_getElem hi, List.map_append]; rfl
theorem atZ_lt {ls : List Ln} {k : Lid} (h : 0 ≤ atZ ls k) : (atZ ls k).toNat < ls.length := by
  rcases fstP_cases (fun x => decide (lnId x = k)) ls with ⟨g1, _⟩ | ⟨j, hj, g1, _, _⟩
  · have g1 : atZ ls k = -1 := g1
    omega
  · have g1 : atZ ls k = (j : Int) := g1
    omega
section
variable {f : ByteArray} {lp pp : Option Addr} {ll lc pl pc : Nat} {ls : List Ln} {ps : List (Int × Int)} {H : Hp}
theorem put3h {b : Nat} {f' : ByteArray} {lp' pp' : Option Addr} {ll' lc' pl' pc' : Nat} (h : D3 H b f lp ll lc pp pl pc) {F : Hp → Prop} (hF : ∀ H', D3 H' b f' lp' ll' lc' pp' pl' pc' → Mod [b] H H' → F H') :
    ST H b 0 (.string f') fun H1 => ST H1 b 1 (.slice lp' ll' lc') fun H2 => ST H2 b 2 (.slice pp' pl' pc') F := by
  have r1 : rd (wr H b 0 (.string f')) b 1 = some (.slice lp ll lc) := by rw [rd_wr_off (by decide)]; exact h.2.1
  have r2 : rd (wr (wr H b 0 (.string f')) b 1 (.slice lp' ll' lc')) b 2 = some (.slice pp pl pc) := by rw [rd_wr_off (by decide), rd_wr_off (by decide)]; exact h.2.2
  refine st h.1 (st r1 (st r2 (hF _ ⟨?_, ?_, ?_⟩ (((Mod.refl.wr (.inl (by simp))).wr (.inl (by simp))).wr (.inl (by simp))))))
  · rw [rd_wr_off (by decide), rd_wr_off (by decide)]; exact rd_wr_self h.1
  · rw [rd_wr_off (by decide)]; exact rd_wr_self r1
  · exact rd_wr_self r2
theorem centolaw15_with.c {h : Hk} {x : HD} {g : ByteArray} {K : ByteArray → Option Addr → Nat → Nat → Option Addr → Nat → Nat → Hp → Prop} (hL : Sn 4 lnC H lp ll lc ls) (hP : Sn 2 pairC H pp pl pc ps) (hll : ll ≤ 200) (hpl : pl ≤ 1000000) (w : RdH H h x) (sm : h.edges.length ≤ 1000 ∧ h.kills.length ≤ 1000) (hk : ∀ k ∈ h.kills, 0 ≤ atZ ls k)
    (hK : ∀ lp' ll' lc' pp' pl' pc' H', Le H H' → Sn 4 lnC H' lp' ll' lc' (wLs ls ls h.kills) → Sn 2 pairC H' pp' pl' pc' (wPs ls ps h.edges) → K f lp' ll' lc' pp' pl' pc' H') : centolaw15_with.C f lp ll lc pp pl pc g x.ap x.al x.ac x.ep x.el x.ec x.kp x.kl x.kc H K := by
  apply centolaw15_with.of
  have el := hL.len
  have ep := hP.len
  have ee := w.2.1.len
  have ek := w.2.2.len
  refine newD3 fun q0 H0 _ d l0 => newD4 fun q1 H1 _ dh l1 => newD3 fun q2 H2 hq2 dr l2 => ?_
  have d := (d.le l1).le l2
  have dh := dh.le l2
  have lA := (l0.trans l1).trans l2
  have dr0 := dr
  refine d.get (D3.mk (f := f) (lp := lp) (ll := ll) (lc := lc) (pp := pp) (pl := pl) (pc := pc) fun q3 H3 hq3 dg l3 => ?_)
  refine ldL_i (d.le l3).2.1 ?_
  have l03 := lA.trans l3
  refine (Buf.none (s := 4) (A := H3) (H := H3)).appN (n := ll) (new := ls.flatMap lnC) rfl (by decide) rfl (by decide) (by rw [flatMap_len lnC_len]; omega) (all_cellN lnC_cell _) (by simp [te_api_Line]; omega) (Le.refl _) (fun G hG => sn_src (by decide) lnC_len (hL.le l03) G hG) fun p1 c1 H4 hB1 l4 _ => ?_
  have dg4 := dg.le l4
  have a1 : Apart p1 (some ⟨q3, 0, none⟩) := fun b o o' e e' => by
    simp only [Option.some.injEq, Addr.mk.injEq] at e'
    obtain ⟨rfl, _⟩ := e'
    exact dg.there (hB1.fr _ _ e)
  refine dg4.set1 fun H5 dg5 m5 => ?_
  have lA5 : Le H2 H5 := m5.le (l3.trans l4) fun b hb => by simp at hb; subst hb; exact hq3
  have hB1 := hB1.mod m5 fun b o e hb => by simp at hb; subst hb; exact a1 _ _ _ e rfl
  refine ldL_i (d.le lA5).2.2 ?_
  have l05 := lA.trans lA5
  refine (Buf.none (s := 2) (A := H5) (H := H5)).appN (n := pl) (new := ps.flatMap pairC) rfl (by decide) rfl (by decide) (by rw [flatMap_len pairC_len]; omega) (all_cellN (fun _ => rfl) _) (by simp [te_api_Pair]; omega) (Le.refl _) (fun G hG => sn_src (by decide) pairC_len (hP.le l05) G hG) fun p2 c2 H6 hB2 l6 _ => ?_
  have dg6 := dg5.le l6
  have a2 : Apart p2 (some ⟨q3, 0, none⟩) := fun b o o' e e' => by
    simp only [Option.some.injEq, Addr.mk.injEq] at e'
    obtain ⟨rfl, _⟩ := e'
    exact dg5.there (hB2.fr _ _ e)
  have a12 : Apart p1 p2 := fun b o o' e e' => hB1.there e (hB2.fr _ _ e')
  have hB1 := hB1.le l6
  refine dg6.set2 fun H7 dg7 m7 => ?_
  have lA7 : Le H2 H7 := m7.le (lA5.trans l6) fun b hb => by simp at hb; subst hb; exact hq3
  have hB1 := hB1.mod m7 fun b o e hb => by simp at hb; subst hb; exact a1 _ _ _ e rfl
  have hB2 := hB2.mod m7 fun b o e hb => by simp at hb; subst hb; exact a2 _ _ _ e rfl
  have hF : Fb H2 H7 q3 f ls ps := ⟨lA7, hq3, p1, _, c1, p2, _, c2, dg7, by simpa using bBack hB1 l3, by simpa using bBack hB2 lA5, a1, a2, a12⟩
  clear hB1 hB2 a1 a2 a12 dg dg4 dg5 dg6 dg7 m5 m7 l6 l4 l3 lA5 l05 l03 lA7 dr
  refine ⟨fun t Hx => ∃ i : Nat, t = (i : Nat) ∧ i ≤ x.el ∧ Fb H2 Hx q3 f ls (wPs ls ps (h.edges.take i)), fun t _ => ((x.el : Int) - t).toNat, ⟨0, rfl, Nat.zero_le _, by simpa [wPs] using hF⟩, ?_⟩
  clear hF
  rintro t Hx ⟨i, rfl, gi, hF⟩
  have lx := hF.1
  have dx := d.le lx
  have dhx := dh.le lx
  have l0x := lA.trans lx
  refine ldL_i dhx.2.2.1 (bcd (fun hlt => ?_) fun hlt => ?_)
  · have hi : i < h.edges.length := by omega
    have hE := w.2.1.le l0x
    obtain ⟨be, oe, hbe, hr⟩ := hE.at hi
    have ra := hr i hi 2 _ rfl
    have rb := hr i hi 3 _ rfl
    refine ldS_i dx.1 (ldL_i dx.2.1 (ldL_i dx.2.2 (ldL_i dhx.2.2.1 (rsEa hE rfl hi (ldS_i dx.1 (ldL_i dx.2.1 (ldL_i dx.2.2 (ldL_i dhx.2.2.1 ?_))))))))
    rw [hbe]
    rw [hbe] at dhx
    refine idxN i rfl (by omega) (nil (ldI_i ra (ldI_i rb ?_)))
    refine centoref12_At.c (id := h.edges[i].a) (hL.le l0x) hll fun H8 l8 => ⟨l8.rd ra, l8.rd rb, (dhx.le l8).2.2.1, (dx.le l8).1, (dx.le l8).2.1, (dx.le l8).2.2, centoref12_At.c (id := h.edges[i].b) ((hL.le l0x).le l8) hll fun H9 l9 => ?_⟩
    obtain ⟨p4, n4, c4, r4, s4, up⟩ := hF.getP
    have l89 := l8.trans l9
    obtain ⟨g4, g5⟩ := up H9 l89
    refine ldL_i g4 fun b hb => ?_
    have n4l := s4.len
    have : (wPs ls ps (h.edges.take i)).length ≤ 1001000 := by unfold wPs; rw [List.length_append, List.length_map, List.length_take]; omega
    refine (g5 (atZ ls h.edges[i].a, atZ ls h.edges[i].b) b _ hb (by omega) fun H10 hF10 => chk (by omega) ⟨⟨i + 1, by omega, by omega, ?_⟩, by first | omega | (dsimp only; omega)⟩).2
    have e : wPs ls ps (h.edges.take (i + 1)) = wPs ls ps (h.edges.take i) ++ [(atZ ls h.edges[i].a, atZ ls h.edges[i].b)] := by
      unfold wPs; rw [map_sn hi, List.append_assoc]
    rw [e]; exact hF10
  rw [List.take_of_length_le (by omega)] at hF
  clear hlt gi i dx dhx l0x lx
  refine ⟨fun t Hy => ∃ i : Nat, t = (i : Nat) ∧ i ≤ x.kl ∧ Fb H2 Hy q3 f (wLs ls ls (h.kills.take i)) (wPs ls ps h.edges), fun t _ => ((x.kl : Int) - t).toNat, ⟨0, rfl, Nat.zero_le _, by simpa [wLs] using hF⟩, ?_⟩
  clear hF
  rintro t Hx ⟨i, rfl, gi, hF⟩
  have lx := hF.1
  have dx := d.le lx
  have dhx := dh.le lx
  have l0x := lA.trans lx
  refine ldL_i dhx.2.2.2 (bcd (fun hlt => ?_) fun hlt => ?_)
  · have hi : i < h.kills.length := by omega
    obtain ⟨p4, n4, c4, pp4, pn4, pc4, d4, s4, _⟩ := hF.use
    refine ldL_i d4.2.1 (ldS_i dx.1 (ldL_i dx.2.1 (ldL_i dx.2.2 (ldL_i dhx.2.2.2 (rsL (w.2.2.le l0x) rfl hi ?_)))))
    refine centoref12_At.c (id := h.kills[i]) (hL.le l0x) hll fun H8 l8 => ⟨(d4.le l8).2.1, ?_⟩
    have h0 := hk _ (List.getElem_mem hi)
    have hlt2 := atZ_lt h0
    have hlen : (atZ ls h.kills[i]).toNat < (wLs ls ls (h.kills.take i)).length := by rw [wLs_len]; exact hlt2
    obtain ⟨a, ha⟩ : ∃ a : Nat, atZ ls h.kills[i] = (a : Int) := ⟨_, (Int.toNat_of_nonneg h0).symm⟩
    have ha' : (atZ ls h.kills[i]).toNat = a := by omega
    rw [ha'] at hlen
    rw [ha]
    refine (hF.le l8).dead hlen (fun H9 hF9 => chk (by omega) ⟨⟨i + 1, by omega, by omega, ?_⟩, by first | omega | (dsimp only; omega)⟩) (d4.le l8).2.1
    rw [List.take_succ_eq_append_getElem hi, wLs_snoc, ha']
    unfold kilL
    rw [lnD hlen]; exact hF9
  · rw [List.take_of_length_le (by omega)] at hF
    obtain ⟨_, _, p4, n4, c4, pp4, pn4, pc4, d4, b4, b5, _⟩ := hF
    have dr := dr0.le lx
    refine d4.get (put3h dr fun H8 d8 m8 => d8.get (hK p4 n4 c4 pp4 pn4 pc4 H8 (m8.le l0x fun b hb => by simp at hb; subst hb; exact none_of_le (l0.trans l1) hq2) ((b4.mod m8 fun b o e hb => ?_).sn lnC_len (by decide)) ((b5.mod m8 fun b o e hb => ?_).sn pairC_len (by decide))))
    · simp at hb; subst hb; exact dr0.there (b4.fr _ _ e)
    · simp at hb; subst hb; exact dr0.there (b5.fr _ _ e)
end
end Go.Proofs.YtganockeifkecaaDoor
namespace Go.Proofs.YtganockeifkecaaDoor
open Go.V
open Go.ChangeShapes Go.WideShapes Go.ChangeAt Go.RowKit Go.WideElems Go.WideMaps

theorem Tryd.own : ownKnob Tryd.prog.godebug = Option.none := by kernel_rfl
theorem Tryd.laidOut : laidOutB Tryd.prog = true := by kernel_rfl
def laidTz : List (String × DataW Unit) := [("math/bits.deBruijn64tab", Rows.laid_math_bits_deBruijn64tab)]
theorem gTz : Tryd.prog.globalNamed "math/bits.deBruijn64tab" = some gTab := by kernel_rfl
theorem tTz : (Tryd.prog.globals[gTab]?).map (·.type) = some 147 := by kernel_rfl
theorem cTz : Tryd.prog.cellsOf 5 = 1 := by kernel_rfl
/-- The table, out of the row's condition. -/
theorem tz_of_laid {W : World} (h : laidMetH Tryd.prog laidTz W) : Tz (hp W) := by
  rw [MakeChecks.laidMetH_plain _ _ _ (by kernel_rfl)] at h
  obtain ⟨ps, ⟨g0, t0, cs0, f0, p0, q0, hg0, ht0, hv0, hd0, _, hps⟩, _, hfz⟩ := h
  obtain rfl := Option.some.inj (gTz.symm.trans hg0)
  obtain rfl := Option.some.inj (tTz.symm.trans ht0)
  obtain ⟨xs, m1, rfl, hx1, hlen, hn, hel⟩ := DataW.trod_array Tryd.underlying147 hd0
  have c64 : Tryd.prog.cellsOf 147 = 64 := by kernel_rfl
  rw [c64] at hlen
  simp only [Prod.mk.injEq] at hx1
  have hx2 : xs.map (·.1) = Lib.deBruijn64tab.map fun k => DataW.lit (.int .u8 (k : Nat)) := by
    have := hx1.1
    rw [Rows.laid_math_bits_deBruijn64tab, DataW.agg.injEq] at this
    rw [← this]; rfl
  intro i hi
  have h0 := hel i hi
  rw [cTz, Nat.mul_one] at h0
  have hix : i < xs.length := by omega
  rw [List.getElem?_eq_getElem hix] at h0
  obtain ⟨k, e1, e2, _⟩ := DataW.trod_int Tryd.underlying5 h0
  have hk : k = ((Lib.deBruijn64tab.getD i 0 : Nat) : Int) := by
    have h3 : (xs.map (·.1))[i]? = some (DataW.lit (.int .u8 k)) := by rw [List.getElem?_map, List.getElem?_eq_getElem hix]; simp [e2]
    rw [hx2, List.getElem?_map] at h3
    have hit : i < Lib.deBruijn64tab.length := hi
    rw [List.getElem?_eq_getElem hit] at h3
    simp only [Option.map_some, Option.some.injEq, DataW.lit.injEq, Lit.int.injEq, true_and] at h3
    rw [← h3]; simp [List.getD, hit]
  have hcell := World.var?_cell hg0 hv0 i
  have hci : i < cs0.size := by simpa using (show i < cs0.toList.length by omega)
  have hget : cs0[i]? = some (.int .u8 k) := by
    have h4 : (cs0.toList.drop i).take 1 = [.int .u8 k] := e1
    have h5 : cs0.toList[i]? = some (.int .u8 k) := by
      have h6 := congrArg (fun l => l[0]?) h4
      simpa [List.getElem?_take, List.getElem?_drop] using h6
    simpa using h5
  rw [hget, hk] at hcell
  have hm : MemPlace.cell gTab i ∈ ps := by
    rw [hps]
    refine List.mem_append_left _ (List.mem_append_left _ ?_)
    have := row_mem (a := ⟨gTab, 0, none⟩) (n := cs0.size) hci
    simpa using this
  obtain ⟨⟨c, t, hb⟩, _⟩ := hfz _ _ hm
  refine rd_of_cell hcell ?_ rfl
  unfold World.frozen?
  rw [hb]
  simp

/-- The door's own heap meets the condition. -/
theorem door_met (os : Os) (args : Array Value) : laidMetH Tryd.prog laidTz ((World.doorLaid Tryd.prog 400 os).forCall (fun _ _ => 0) ⟨#[], args, []⟩).memory :=
  laidMetH_of_parts3 (fuel := 8) (laidMet_of_run' 8 (by kernel_rfl) (by kernel_rfl)) (by kernel_rfl) (by kernel_rfl)
end Go.Proofs.YtganockeifkecaaDoor
