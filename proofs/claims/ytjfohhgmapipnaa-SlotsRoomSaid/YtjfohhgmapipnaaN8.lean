/- For every input SlotsRoom returns true, and what came in reads as it did: no condition. -/
import Derived.Test.YtjfohhgmapipnaaN7
import Derived.Test.YtjfohhgmapipnaaVcLift
import Derived.Test.YtjfohhgmapipnaaVcOpen
import Derived.Test.YtjfohhgmapipnaaRows
namespace Go.Proofs.Ytjfohhgmapipnaa
open Go.V
open Go.ChangeShapes Go.WideShapes Go.ChangeAt Go.RowKit
theorem slotsRoom_law {n cut : Int} {H : Hp} (wn : (Lit.int .u16 n).wf = true) (wc : (Lit.int .u16 cut).wf = true) : centolaw20_SlotsRoom.C n cut H fun r H' => r = true ∧ Le H H' := by
  apply centolaw20_SlotsRoom.of
  have bn : 0 ≤ n ∧ n ≤ 65535 := by
    simp [Lit.wf, IntKind.min, IntKind.max, IntKind.signed, IntKind.bits] at wn; omega
  have bc' : 0 ≤ cut ∧ cut ≤ 65535 := by
    simp [Lit.wf, IntKind.min, IntKind.max, IntKind.signed, IntKind.bits] at wc; omega
  obtain ⟨n, rfl⟩ : ∃ k : Nat, n = k := ⟨n.toNat, by omega⟩
  obtain ⟨cut, rfl⟩ : ∃ k : Nat, cut = k := ⟨cut.toNat, by omega⟩
  refine centolaw20_known.c fun H0 le0 => ?_
  refine bcn (fun h => by cases h) fun _ => ⟨by decide, ?_⟩
  rw [show (900 : Int) = ((900 : Nat) : Int) from rfl, ← Int.ofNat_tmod]
  have hm : n % 900 < 900 := Nat.mod_lt _ (by decide)
  generalize n % 900 = k at hm
  refine chk (by omega) (chk (by omega) ?_)
  rw [show ((k : Nat) : Int) + 21 = ((k + 21 : Nat) : Int) by omega]
  generalize hN : k + 21 = N at *
  refine sector_New.c fun H1 d O1 h1 le1 o1 => ?_
  have o1' : ∀ x ∈ O1, H x = none := fun x hx => none_of_le le0 (o1 x hx)
  have v1 : Holds (DS.new (N : Nat)) N 0 none := Holds.new (by omega)
  have f1 : (DS.new (N : Nat)).left = none := rfl
  have n1 : (DS.new (N : Nat)).n = 0 := rfl
  generalize DS.new ((N : Nat) : Int) = s1 at *
  have l1 := v1.len
  refine slots_Room.c h1 (by omega) ?_
  rw [l1]
  have hr : roomN N = min (64 * ((N - 2) / 2)) 20000 := by unfold roomN secN; rw [if_neg (by omega)]
  refine chk (by omega) (chk (by omega) ?_)
  refine bcd (fun h => absurd h (by omega)) fun _ => bcd (fun h => absurd h (by omega)) fun _ => bcd (fun h => absurd h (by omega)) fun _ => ?_
  have hr' := roomN_le N
  generalize hrr : roomN N = r at *
  unfold centolaw20_SlotsRoom.k1
  refine chk (by omega) (chk (by omega) ⟨by omega, ?_⟩)
  rw [show ((r : Nat) : Int) + 1 = ((r + 1 : Nat) : Int) by omega, ← Int.ofNat_tmod]
  have hm2 : cut % (r + 1) < r + 1 := Nat.mod_lt _ (by omega)
  generalize cut % (r + 1) = c2 at hm2
  refine chk (by omega) ⟨r - c2, r - c2, by omega, by omega, Nat.le_refl _, by omega, by omega, ?_⟩
  generalize hz : r - c2 = z
  intro b2 hb2
  have hb2H : H b2 = none := none_of_le (le0.trans le1) hb2
  have hnz : ∀ i, i < z → rd (upd H1 b2 (rep z [.int .u8 (0 : Int)] ++ [tyM 5 0 0])) b2 i = some (.int .u8 0) := fun i hi => rd_repZ hi
  have le2 : Le H (upd H1 b2 (rep z [.int .u8 (0 : Int)] ++ [tyM 5 0 0])) := (le0.trans le1).trans (Le.upd hb2)
  have h2 := h1.le (Le.upd (c := rep z [.int .u8 (0 : Int)] ++ [tyM 5 0 0]) hb2)
  have hb2O : b2 ∉ O1 := fun hx => h1.there _ hx hb2
  generalize upd H1 b2 (rep z [.int .u8 (0 : Int)] ++ [tyM 5 0 0]) = H2 at hnz le2 h2
  refine ⟨fun i H' => ∃ j : Nat, i = (j : Nat) ∧ j ≤ z ∧ Dk H' d O1 s1 ∧ Le H H' ∧ ∃ l : BL, l.length = z ∧ ∀ i x, l[i]? = some x → rd H' b2 i = some (.int .u8 (x.toNat : Nat)), fun i _ => ((z : Int) - i).toNat,
    ⟨0, rfl, Nat.zero_le _, h2, le2, List.replicate z 0, List.length_replicate, fun i x hx => ?_⟩, ?_⟩
  · rw [List.getElem?_replicate] at hx
    split at hx
    · rename_i hi; cases hx; exact hnz i hi
    · cases hx
  rintro i H3 ⟨j, rfl, gj, h3, le3, l, hl, hv⟩
  refine bcd (fun hj => ?_) (fun hj => ?_)
  · have hjl : j < l.length := by omega
    refine chk (by omega) (idxN j rfl (by omega) ?_)
    rw [Nat.zero_add, show IntKind.wrap .u8 (((j : Nat) : Int) * 7) = ((UInt8.ofNat (j * 7 % 256)).toNat : Nat) by rw [u8w, u8nat (by omega)]; omega]
    refine st (hv j _ (List.getElem?_eq_getElem hjl)) (chk (by omega) ⟨⟨j + 1, by omega, by omega, h3.mod (P := [b2]) (Mod.refl.wr (.inl (by simp))) (fun x hx hx' => by simp at hx'; subst hx'; exact hb2O hx), le3.wr hb2H, l.set j (UInt8.ofNat (j * 7 % 256)), by rw [List.length_set, hl], fun i x hx => ?_⟩, by first | omega | (dsimp only; omega)⟩)
    rw [List.getElem?_set] at hx
    split at hx
    · rename_i e
      subst e
      cases hx
      exact rd_wr_self (hv j _ (List.getElem?_eq_getElem hjl))
    · rename_i e
      rw [rd_wr_off (Ne.symm e)]
      exact hv i x hx
  refine ⟨l, hl, fun i x hx => by rw [Nat.zero_add]; exact hv i x hx, ?_⟩
  refine slots_Save.h (b := l) h3 le3 o1' v1 (by omega) (by decide) (by rw [hl, hrr]; omega) fun e H4 O4 s4 t4 p4 => ?_
  have ee := p4.ok f1
  subst ee
  refine slots_Load.h t4.dk (p4.done rfl) (on_none (p4.left f1)) (fun h => by cases h) (fun b hb H5 le5 => ?_)
  cases hb
  refine bcd (fun _ => bcd (fun _ => ?_) fun h => absurd rfl h) fun h => absurd rfl h
  have hb2H3 : ∀ i x, l[i]? = some x → rd H5 b2 i = some (.int .u8 (x.toNat : Nat)) := fun i x hx => le5.rd (t4.md.rd hb2O (hv i x hx))
  refine ⟨l, hl, fun i x hx => by rw [Nat.zero_add]; exact hb2H3 i x hx, ?_⟩
  exact ⟨decide_eq_true rfl, t4.le.trans le5⟩


theorem slotsRoom_own : ownKnob Try.prog.godebug = none := by kernel_rfl
theorem slotsRoom_laid : laidOutB Try.prog = true := by kernel_rfl
set_option maxRecDepth 100000 in
theorem slotsRoom_lifted (os : Os) (started : os.Started) (H : Type) (enc : TypeId × Value → H) :
    ReturnsInHanded {} Try.checked os 10 .any (Rows.slotsRoomSpec.pre6 enc Try.prog Try.f10 Rows.slotsRoomRow.domain false) (Rows.slotsRoomSpec.post enc Try.prog Try.f10 false true false false) := by
  refine returnsInHanded_of_change (C := Try.checked) slotsRoom_own started (by kernel_rfl) Try.func10
    (ChangeSpec.witness6 (enc := enc) (C := Try.checked) false ⟨#[], #[.int .u16 0, .int .u16 0], []⟩ 8 (by kernel_rfl) (by kernel_rfl) (by kernel_rfl) (by kernel_rfl)) ?_
  intro W base args ds gs before hval0 hW hcnd _
  have hval : ∀ (j : Nat) t v, Try.f10.params[j]? = some t → args[j]? = some v → Value.okWide Try.prog W .any base t v := hval0
  have hW' := hW
  obtain ⟨p, q, hA0, hV, rfl, hfz, hnd⟩ := hW
  have hA : DataW.TrodAll enc Try.prog W 0 (fun _ => true) true Try.f10.params.toList args.toList ds p := hA0
  rw [Try.params10] at hA hval
  obtain ⟨v0, v1, d0, d1, p0, p1, rfl, rfl, rfl, h0, h1⟩ := trodAll_two hA
  obtain ⟨x0, rfl, rfl, rfl, w0⟩ := open_int Try.underlying60 (hval 0 60 v0 rfl rfl) h0
  obtain ⟨x1, rfl, rfl, rfl, w1⟩ := open_int Try.underlying60 (hval 1 60 v1 rfl rfl) h1
  refine (calls_true (slotsRoom_law w0 w1) Try.func10 (by kernel_rfl)).mono fun e W' ⟨he, hk⟩ => ?_
  subst he
  exact ⟨_, rfl, post_true slotsRoom_laid hW' (by kernel_rfl) rfl rfl rfl Try.underlying4 hk⟩

theorem slotsRoom_holds : Rows.SlotsRoomSaid :=
  OpenClaim.holds_of_wide 10 Try.f10 rfl rfl rfl rfl rfl rfl rfl ⟨rfl, rfl, rfl, rfl, rfl⟩ rfl rfl rfl rfl rfl (by kernel_rfl) Try.func10 (by kernel_rfl)
    (of_decide_eq_true (by kernel_rfl)) (by unfold Func.isWrapper; first | (rw [if_pos (by decide +kernel)]; kernel_rfl) | (rw [if_neg (by decide +kernel)]; exact ⟨rfl, rfl⟩))
    (fun os started H enc _ => slotsRoom_lifted os started H enc)

end Go.Proofs.Ytjfohhgmapipnaa
