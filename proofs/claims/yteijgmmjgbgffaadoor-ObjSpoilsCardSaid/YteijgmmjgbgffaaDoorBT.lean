/- The table of math/bits, out of the row's condition. -/
import Derived.Test.YteijgmmjgbgffaaDoorB2
import Derived.Test.YteijgmmjgbgffaaDoorVcLift
import Derived.Test.YteijgmmjgbgffaaDoorTie
import Derived.Test.YteijgmmjgbgffaaDoorCards
import Derived.LaidMore
import Derived.OpenShut
import Derived.SevenTiedAt
import Derived.MakeChecks
import Derived.Handed
import Derived.LaidLaws
namespace Go.Proofs.YteijgmmjgbgffaaDoor
open Go.V
open Go.ChangeShapes Go.WideShapes Go.ChangeAt Go.RowKit Go.WideElems Go.WideMaps

theorem Tryd.own : ownKnob Tryd.prog.godebug = Option.none := by kernel_rfl
theorem Tryd.laidOut : laidOutB Tryd.prog = true := by kernel_rfl
def laidTz : List (String × DataW Unit) := [("math/bits.deBruijn64tab", Rows.laid_math_bits_deBruijn64tab)]
theorem gTz : Tryd.prog.globalNamed "math/bits.deBruijn64tab" = some gTab := by kernel_rfl
theorem tTz : (Tryd.prog.globals[gTab]?).map (·.type) = some 153 := by kernel_rfl
theorem cTz : Tryd.prog.cellsOf 5 = 1 := by kernel_rfl
/-- The table, out of the row's condition. -/
theorem tz_of_laid {W : World} (h : laidMetH Tryd.prog laidTz W) : Tz (hp W) := by
  rw [MakeChecks.laidMetH_plain _ _ _ (by kernel_rfl)] at h
  obtain ⟨ps, ⟨g0, t0, cs0, f0, p0, q0, hg0, ht0, hv0, hd0, _, hps⟩, _, hfz⟩ := h
  obtain rfl := Option.some.inj (gTz.symm.trans hg0)
  obtain rfl := Option.some.inj (tTz.symm.trans ht0)
  obtain ⟨xs, m1, rfl, hx1, hlen, hn, hel⟩ := DataW.trod_array Tryd.underlying153 hd0
  have c64 : Tryd.prog.cellsOf 153 = 64 := by kernel_rfl
  rw [c64] at hlen
  simp only [Prod.mk.injEq] at hx1
  have hx2 : xs.map (·.1) = Lib.deBruijn64tab.map fun k => DataW.lit (.int .u8 (k : Nat)) := by
    have := hx1.1
    rw [Rows.laid_math_bits_deBruijn64tab, DataW.agg.injEq] at this
    rw [← this]; rfl
  intro i hi
  have h0 := hel i hi
  rw [cTz, Nat.mul_one] at h0
  have hix : i < xs.length := by omega
  rw [List.getElem?_eq_getElem hix] at h0
  obtain ⟨k, e1, e2, _⟩ := DataW.trod_int Tryd.underlying5 h0
  have hk : k = ((Lib.deBruijn64tab.getD i 0 : Nat) : Int) := by
    have h3 : (xs.map (·.1))[i]? = some (DataW.lit (.int .u8 k)) := by rw [List.getElem?_map, List.getElem?_eq_getElem hix]; simp [e2]
    rw [hx2, List.getElem?_map] at h3
    have hit : i < Lib.deBruijn64tab.length := hi
    rw [List.getElem?_eq_getElem hit] at h3
    simp only [Option.map_some, Option.some.injEq, DataW.lit.injEq, Lit.int.injEq, true_and] at h3
    rw [← h3]; simp [List.getD, hit]
  have hcell := World.var?_cell hg0 hv0 i
  have hci : i < cs0.size := by simpa using (show i < cs0.toList.length by omega)
  have hget : cs0[i]? = some (.int .u8 k) := by
    have h4 : (cs0.toList.drop i).take 1 = [.int .u8 k] := e1
    have h5 : cs0.toList[i]? = some (.int .u8 k) := by
      have h6 := congrArg (fun l => l[0]?) h4
      simpa [List.getElem?_take, List.getElem?_drop] using h6
    simpa using h5
  rw [hget, hk] at hcell
  have hm : MemPlace.cell gTab i ∈ ps := by
    rw [hps]
    refine List.mem_append_left _ (List.mem_append_left _ ?_)
    have := row_mem (a := ⟨gTab, 0, none⟩) (n := cs0.size) hci
    simpa using this
  obtain ⟨⟨c, t, hb⟩, _⟩ := hfz _ _ hm
  refine rd_of_cell hcell ?_ rfl
  unfold World.frozen?
  rw [hb]
  simp

/-- The door's own heap meets the condition. -/
theorem door_met (os : Os) (args : Array Value) : laidMetH Tryd.prog laidTz ((World.doorLaid Tryd.prog 400 os).forCall (fun _ _ => 0) ⟨#[], args, []⟩).memory :=
  laidMetH_of_parts3 (fuel := 8) (laidMet_of_run' 8 (by kernel_rfl) (by kernel_rfl)) (by kernel_rfl) (by kernel_rfl)
end Go.Proofs.YteijgmmjgbgffaaDoor
