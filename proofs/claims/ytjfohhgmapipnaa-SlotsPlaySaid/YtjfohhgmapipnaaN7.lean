/- Contracts. -/
import Derived.Test.YtjfohhgmapipnaaN6
namespace Go.Proofs.Ytjfohhgmapipnaa
open Go.V
/-! ### The document's example -/
theorem Left.ok {s s' : DS} {N m : Nat} {v : Option BL} {b : BL} {e : Int} (h : Left s s' N m v b e) (hl : s.left = none) : e = 0 := by
  refine Classical.byContradiction fun he => ?_
  have := (h.torn he).2.1
  rw [h.left hl] at this; cases this
theorem on_none {s : DS} (h : s.left = none) : s.on := by unfold DS.on; rw [h]; simp
theorem rd_repZ {H : Hp} {b n k : Nat} {tl : List Value} {z : Value} (h : k < n) (hz : isCell z = true := by rfl) : rd (upd H b (rep n [z] ++ tl)) b k = some z := by
  rw [rd_upd_self, List.getElem?_append_left (by simp [rep]; exact h)]
  show ((List.replicate n z)[k]?).bind nmO = some z
  rw [List.getElem?_replicate, if_pos h]; exact nm_cell hz
theorem btsZ {H : Hp} {b n : Nat} {tl : List Value} {F : ByteArray → Prop} (hF : F (mkB (List.replicate n 0))) : BTS (upd H b (rep n [.int .u8 (0 : Int)] ++ tl)) (some ⟨b, 0, none⟩) n F := by
  refine ⟨List.replicate n 0, by simp, fun i x hx => ?_, hF⟩
  rw [List.getElem?_replicate] at hx
  split at hx
  · rename_i hi
    rw [Nat.zero_add, rd_repZ hi, ← Option.some.inj hx]; rfl
  · cases hx
theorem wn_of {H : Hp} {d : Nat} {O : List Nat} {s : DS} (h : Dk H d O s) (hn : s.n ≤ 1000000000) : s.w.length ≤ 1000000000 := Nat.le_trans h.wn hn
theorem centolaw20_known.c {H : Hp} {K : Bool → Hp → Prop} (hK : ∀ H', Le H H' → K true H') : centolaw20_known.C H K := by
  apply centolaw20_known.of
  refine sector_New.c fun H1 d O1 h1 le1 o1 => ?_
  have t1 := Stt.refl h1 le1 o1
  have v1 : Holds (DS.new (100 : Int)) 100 0 none := Holds.new (n := 100) (by decide)
  have f1 : (DS.new (100 : Int)).left = none := rfl
  have n1 : (DS.new (100 : Int)).n = 0 := rfl
  generalize DS.new (100 : Int) = s1 at *
  refine slots_Load.h h1 v1 (on_none f1) (fun _ H2 le2 => ?_) (fun _ h => by cases h)
  have t2 := t1.up le2
  refine slots_Save.h (b := [104, 101, 108, 108, 111]) t2.dk t2.le t2.fr v1 (by omega) (by decide) (by decide) fun e H3 O3 s3 t3 p3 => ?_
  have ee := p3.ok f1
  subst ee
  have v3 := p3.done rfl
  have f3 := p3.left f1
  have n3 := p3.n
  refine slots_Load.h t3.dk v3 (on_none f3) (fun h => by cases h) (fun b hb H4 le4 => ?_)
  cases hb
  refine sector_Disk_Crash.c (bits := 0) (t3.dk.le le4) (by rw [v3.w]; decide) (by decide) fun H5 O5 h5 m5 g5 => ?_
  have le5 := m5.le (t3.le.trans le4) t3.fr
  have v5 := v3.crash 0
  refine slots_Load.h h5 v5 (on_none rfl) (fun h => by cases h) (fun b hb H6 le6 => ?_)
  cases hb
  refine bcd (fun _ => bcd (fun _ => bcd (fun _ => bcd (fun _ => bcd (fun _ => bcd (fun _ => ?_) fun h => absurd rfl h) fun h => absurd rfl h) fun h => absurd rfl h) fun h => absurd rfl h) fun h => absurd rfl h) fun h => absurd rfl h
  have h6 := h5.le le6
  have l6 := v5.len
  have le06 := le5.trans le6
  refine slots_Room.c h6 (by omega) ?_
  rw [l6]
  refine bcd (fun _ => ?_) fun h => absurd (by decide) h
  refine slots_Room.c h6 (by omega) ?_
  rw [l6, show roomN 100 = 3136 from rfl]
  refine chk (by omega) ⟨3137, 3137, rfl, rfl, Nat.le_refl _, by decide, by decide, ?_⟩
  intro b7 hb7
  have le7 := le06.trans (Le.upd (c := rep 3137 [.int .u8 (0 : Int)] ++ [tyM 5 0 0]) hb7)
  have h7 := h6.le (Le.upd (c := rep 3137 [.int .u8 (0 : Int)] ++ [tyM 5 0 0]) hb7)
  refine btsZ ?_
  refine slots_Save.full h7 (by omega) (by rw [List.length_replicate, l6]; decide) ?_
  refine bcd (fun _ => ?_) fun h => absurd rfl h
  refine sector_New.c fun H8 d8 O8 h8 le8 _ => ?_
  refine slots_Save.small (b := []) h8 (by unfold DS.new; rw [List.length_replicate]; decide) ?_
  exact hK H8 (le7.trans le8)
theorem slots_Save.off {H : Hp} {d : Nat} {O : List Nat} {s : DS} {b : BL} {K : Int → Hp → Prop} (hu : Dk H d O s) (hl : 21 ≤ s.l.length) (hl' : s.l.length ≤ 1000000000) (hn : s.n ≤ 1000000000) (hfit : b.length ≤ roomN s.l.length) (off : ¬ s.on) (hK : ∀ H' O', Dk H' d O' s → Mod O H H' → Grew H O O' → K 23 H') : slots_Save.C (some ⟨d, 0, none⟩) (mkB b) H K := by
  apply slots_Save.of
  refine sector_Disk_Len.c hu (bcd (fun h => absurd h (by omega)) fun _ => slots_Room.c hu (by omega) (bcd (fun hh => ?_) fun _ => ?_))
  · rw [mkB_size] at hh; omega
  unfold slots_Save.k1
  refine sector_Disk_Flush.c hu hn fun H1 O1 h1 m1 g1 => ?_
  obtain ⟨e1, e2⟩ := flush_off off
  rw [e1] at h1
  rw [e2]
  exact bcd (fun _ => hK H1 O1 h1 m1 g1) fun h => absurd (by decide) h
end Go.Proofs.Ytjfohhgmapipnaa
