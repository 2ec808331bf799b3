/- For every input DiskLimits returns true, and what came in reads as it did: no condition. -/
import Derived.Test.YtjfohhgmapipnaaT6
import Derived.Test.YtjfohhgmapipnaaVcLift
import Derived.Test.YtjfohhgmapipnaaVcOpen
import Derived.Test.YtjfohhgmapipnaaRows
namespace Go.Proofs.Ytjfohhgmapipnaa
open Go.V
open Go.ChangeShapes Go.WideShapes Go.ChangeAt Go.RowKit
theorem diskLimits_law {n m : Int} {H : Hp} (wn : (Lit.int .u8 n).wf = true) (wm : (Lit.int .u8 m).wf = true) : centolaw19_DiskLimits.C n m H fun r H' => r = true ∧ Le H H' := by
  apply centolaw19_DiskLimits.of
  have bn := wf_u8 wn
  have bm := wf_u8 wm
  refine centolaw19_known.c fun H0 le0 => ?_
  refine bcn (fun h => by cases h) fun _ => ?_
  obtain ⟨a, rfl⟩ : ∃ a : Nat, n = a := ⟨n.toNat, by omega⟩
  obtain ⟨c', rfl⟩ : ∃ c' : Nat, m = c' := ⟨m.toNat, by omega⟩
  refine ⟨by decide, ?_⟩
  rw [show (20 : Int) = ((20 : Nat) : Int) from rfl, tmodN (by omega), Int.toNat_natCast]
  have hk : a % 20 < 20 := Nat.mod_lt _ (by decide)
  generalize a % 20 = k at hk
  refine chk (by omega) ⟨by decide, ?_⟩
  rw [show (40 : Int) = ((40 : Nat) : Int) from rfl, tmodN (by omega), Int.toNat_natCast]
  have ht : c' % 40 < 40 := Nat.mod_lt _ (by decide)
  generalize c' % 40 = t at ht
  refine chk (by omega) ?_
  refine sector_New.c fun H1 d O1 h1 le1 o1 => ?_
  refine sector_Disk_Limit.c h1 (by omega) fun H2 h2 m2 => ?_
  have le01 := le0.trans le1
  have o1' : ∀ x ∈ O1, H x = none := fun x hx => none_of_le le0 (o1 x hx)
  have le2 : Le H H2 := m2.le le01 (by simpa using o1' d h1.hd)
  refine ⟨fun done i H' => ∃ (j : Nat) (O : List Nat) (s : DS), i = (j : Nat) ∧ j ≤ t ∧ done = (min j k : Nat) ∧ Dk H' d O s ∧ s.l.length = 4 ∧ s.left = some (k - j) ∧ s.n = min j k ∧ Le H H' ∧ (∀ x ∈ O, H x = none), fun _ i _ => ((t : Int) - i).toNat,
    ⟨0, O1, _, rfl, Nat.zero_le _, by simp, h2, rfl, by simp [DS.limit], by simp [DS.limit, DS.new], le2, o1'⟩, ?_⟩
  rintro done i H3 ⟨j, O, s, rfl, g1, rfl, h3, hl, hleft, hn, le3, o3⟩
  have hw := h3.wn
  have hon : s.on ↔ j < k := by
    unfold DS.on
    rw [hleft]
    simp; omega
  -- behind a step
  have next : ∀ {H4 : Hp} {O4 : List Nat} {s4 : DS} {e : Int}, Dk H4 d O4 s4 → s4.l.length = 4 → s4.left = (if s.on then s.left.map (· - 1) else s.left) → s4.n = (if s.on then s.n + 1 else s.n) → Le H H4 → (∀ x ∈ O4, H x = none) → e = (if s.on then 0 else 23) → j < t →
      centolaw19_DiskLimits.k1 H3 (fun done i H' => ∃ (j : Nat) (O : List Nat) (s : DS), i = (j : Nat) ∧ j ≤ t ∧ done = (min j k : Nat) ∧ Dk H' d O s ∧ s.l.length = 4 ∧ s.left = some (k - j) ∧ s.n = min j k ∧ Le H H' ∧ (∀ x ∈ O, H x = none)) (fun r H' => r = true ∧ Le H H') ((min j k : Nat) : Int) ((j : Nat) : Int) (fun _ i _ => ((t : Int) - i).toNat) ((k : Nat) : Int) e H4 := fun {H4 O4 s4 e} h4 hl4 hleft4 hn4 le4 o4 he hjt => by
    unfold centolaw19_DiskLimits.k1
    by_cases on : s.on
    · have hjk := hon.1 on
      rw [if_pos on] at hleft4 hn4 he
      subst he
      refine bcd (fun h => absurd ?_ h) fun _ => bcd (fun h => absurd rfl h) fun _ => ?_
      · rw [decide_eq_true rfl, decide_eq_true (by omega)]
      · unfold centolaw19_DiskLimits.k2
        refine bcd (fun _ => chk (by omega) (chk (by omega) ⟨⟨j + 1, O4, s4, by omega, by omega, by omega, h4, hl4, ?_, by omega, le4, o4⟩, by dsimp only; omega⟩)) fun h => absurd rfl h
        rw [hleft4, hleft]; simp; omega
    · have hjk : ¬ j < k := fun h => on (hon.2 h)
      rw [if_neg on] at hleft4 hn4 he
      subst he
      refine bcd (fun h => absurd ?_ h) fun _ => bcd (fun _ => bcd (fun h => absurd rfl h) fun _ => ?_) fun h => absurd (by decide) h
      · rw [decide_eq_false (by decide), decide_eq_false (by omega)]
      · unfold centolaw19_DiskLimits.k2
        refine bcd (fun h => by cases h) fun _ => chk (by omega) ⟨⟨j + 1, O4, s4, by omega, by omega, by omega, h4, hl4, ?_, by omega, le4, o4⟩, by dsimp only; omega⟩
        rw [hleft4, hleft]; simp; omega
  refine bcd (fun hjt => ?_) (fun hjt => ?_)
  · refine ⟨by decide, ?_⟩
    refine bcd (fun _ => ?_) (fun _ => ⟨by decide, ?_⟩)
    · refine sector_Disk_Flush.c h3 (by omega) fun H4 O4 h4 m4 g4 => ?_
      exact next h4 (by rw [DS.flush_len, hl]) (DS.flush_left s) (DS.flush_n s) (m4.le le3 o3) (own_grow le3 o3 g4) (by unfold DS.flushE; rfl) (by omega)
    · rw [show (4 : Int) = ((4 : Nat) : Int) from rfl, tmodN (by omega), Int.toNat_natCast]
      have h4' : j % 4 < 4 := Nat.mod_lt _ (by decide)
      generalize j % 4 = q at h4'
      refine sector_Disk_Write.c (b := [120]) h3 (by omega) fun H4 O4 h4 m4 g4 => ?_
      refine next h4 (by rw [DS.write_len, hl]) (DS.write_left s _ _) (DS.write_n s _ _) (m4.le le3 o3) (own_grow le3 o3 g4) ?_ (by omega)
      unfold DS.writeE
      rw [if_pos (show s.fits (q : Nat) ∧ ([120] : BL).length ≤ 64 from ⟨⟨by omega, by rw [hl]; omega⟩, by decide⟩)]
  · have hjt' : j = t := by omega
    subst hjt'
    refine sector_Disk_Read.c h3 (by omega) fun H4 le4 => ?_
    have hread : s.readE 0 = if s.on then 0 else 23 := by
      unfold DS.readE
      rw [if_pos (show s.fits 0 from ⟨by omega, by rw [hl]; omega⟩)]
    rw [hread]
    have h4 := h3.le le4
    refine bcd (fun h => absurd ?_ h) fun _ => ?_
    · by_cases on : s.on
      · rw [if_pos on, decide_eq_false (by decide), decide_eq_false (by have := hon.1 on; omega)]
      · rw [if_neg on, decide_eq_true rfl, decide_eq_true (by have : ¬ j < k := fun h => on (hon.2 h); omega)]
    refine sector_Disk_Steps.c h4 ?_
    rw [hn]
    refine bcd (fun h => absurd rfl h) fun _ => ?_
    unfold centolaw19_DiskLimits.k3
    have le04 := le3.trans le4
    refine sector_Disk_Crash.c (bits := 0) h4 (by omega) (by decide) fun H5 O5 h5 m5 g5 => ?_
    have le5 := m5.le le04 o3
    have o5 := own_grow le04 o3 g5
    have on5 : (s.crash 0).on := by unfold DS.on DS.crash; simp
    have f5 : ∀ i : Int, 0 ≤ i → i < 4 → (s.crash 0).fits i := fun i hi0 hi => ⟨hi0, by rw [DS.crash_len, hl]; omega⟩
    refine sector_Disk_Read.c h5 (Nat.zero_le _) fun H6 le6 => ?_
    have hr5 : (s.crash 0).readE 0 = 0 := by unfold DS.readE; rw [if_pos on5, if_pos (f5 0 (by decide) (by decide))]
    rw [hr5]
    refine bcd (fun _ => ?_) fun h => absurd rfl h
    have h6 := h5.le le6
    refine sector_Disk_Write.c (b := [121]) h6 (by show s.n ≤ _; omega) fun H7 O7 h7 m7 g7 => ?_
    have hw7 : (s.crash 0).writeE 3 [121] = 0 := by unfold DS.writeE; rw [if_pos on5, if_pos ⟨f5 3 (by decide) (by decide), by decide⟩]
    rw [hw7]
    refine bcd (fun _ => ?_) fun h => absurd rfl h
    refine sector_Disk_Steps.c h7 (chk (by omega) ⟨decide_eq_true ?_, m7.le (le5.trans le6) o5⟩)
    rw [DS.write_n, if_pos on5]
    show (((s.n + 1 : Nat)) : Int) = _
    omega

theorem diskLimits_own : ownKnob Try.prog.godebug = none := by kernel_rfl
theorem diskLimits_laid : laidOutB Try.prog = true := by kernel_rfl
set_option maxRecDepth 100000 in
theorem diskLimits_lifted (os : Os) (started : os.Started) (H : Type) (enc : TypeId × Value → H) :
    ReturnsInHanded {} Try.checked os 8 .any (Rows.diskLimitsSpec.pre6 enc Try.prog Try.f8 Rows.diskLimitsRow.domain false) (Rows.diskLimitsSpec.post enc Try.prog Try.f8 false true false false) := by
  refine returnsInHanded_of_change (C := Try.checked) diskLimits_own started (by kernel_rfl) Try.func8
    (ChangeSpec.witness6 (enc := enc) (C := Try.checked) false ⟨#[], #[.int .u8 0, .int .u8 0], []⟩ 8 (by kernel_rfl) (by kernel_rfl) (by kernel_rfl) (by kernel_rfl)) ?_
  intro W base args ds gs before hval0 hW hcnd _
  have hval : ∀ (j : Nat) t v, Try.f8.params[j]? = some t → args[j]? = some v → Value.okWide Try.prog W .any base t v := hval0
  have hW' := hW
  obtain ⟨p, q, hA0, hV, rfl, hfz, hnd⟩ := hW
  have hA : DataW.TrodAll enc Try.prog W 0 (fun _ => true) true Try.f8.params.toList args.toList ds p := hA0
  rw [Try.params8] at hA hval
  obtain ⟨v0, v1, d0, d1, p0, p1, rfl, rfl, rfl, h0, h1⟩ := trodAll_two hA
  obtain ⟨x0, rfl, rfl, rfl, w0⟩ := open_int Try.underlying5 (hval 0 5 v0 rfl rfl) h0
  obtain ⟨x1, rfl, rfl, rfl, w1⟩ := open_int Try.underlying5 (hval 1 5 v1 rfl rfl) h1
  refine (calls_true (diskLimits_law w0 w1) Try.func8 (by kernel_rfl)).mono fun e W' ⟨he, hk⟩ => ?_
  subst he
  exact ⟨_, rfl, post_true diskLimits_laid hW' (by kernel_rfl) rfl rfl rfl Try.underlying4 hk⟩

theorem diskLimits_holds : Rows.DiskLimitsSaid :=
  OpenClaim.holds_of_wide 8 Try.f8 rfl rfl rfl rfl rfl rfl rfl ⟨rfl, rfl, rfl, rfl, rfl⟩ rfl rfl rfl rfl rfl (by kernel_rfl) Try.func8 (by kernel_rfl)
    (of_decide_eq_true (by kernel_rfl)) (by unfold Func.isWrapper; first | (rw [if_pos (by decide +kernel)]; kernel_rfl) | (rw [if_neg (by decide +kernel)]; exact ⟨rfl, rfl⟩))
    (fun os started H enc _ => diskLimits_lifted os started H enc)

end Go.Proofs.Ytjfohhgmapipnaa
