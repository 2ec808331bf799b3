/- Contracts. -/
import Derived.Test.YtjfohhgmapipnaaT4
namespace Go.Proofs.Ytjfohhgmapipnaa
open Go.V
/-! ### Copies, new disks -/
theorem slices_Clone_string_string.c {p : Option Addr} {l k : Nat} {xs : List BL} {H : Hp} {K : Option Addr → Nat → Nat → Hp → Prop} (h : Buf 1 E0 H p l k (xs.map sv)) (hfit : l ≤ 1000000000) (hK : ∀ p' k' H', Buf 1 H H' p' l k' (xs.map sv) → Le H H' → K p' l k' H') : slices_Clone_string_string.C p l k H K := by
  apply slices_Clone_string_string.of
  exact clone1 rfl rfl (by decide) rfl (fun _ => rfl) h.sl h.pt (by show l * 16 ≤ _; omega) (fun hp => by
    rcases h.2 with ⟨_, h0, _⟩ | ⟨b, _, h1, _⟩
    · exact h0
    · rw [hp] at h1; cases h1) (fun p' k' H' hB _ hle => hK p' k' H' hB hle)
theorem wcs_cell (w : List (Nat × BL)) : (w.flatMap wc).all isCell = true := List.all_eq_true.2 fun v hv => by
  obtain ⟨x, _, hx⟩ := List.mem_flatMap.1 hv
  simp only [wc, List.mem_cons, List.not_mem_nil, or_false] at hx
  rcases hx with rfl | rfl <;> rfl
theorem slices_Clone_sector_write_sector_write.c {p : Option Addr} {l k : Nat} {xs : List (Nat × BL)} {H : Hp} {K : Option Addr → Nat → Nat → Hp → Prop} (h : Buf 2 E0 H p l k (xs.flatMap wc)) (hfit : l ≤ 1000000000) (hK : ∀ p' k' H', Buf 2 H H' p' l k' (xs.flatMap wc) → Le H H' → K p' l k' H') : slices_Clone_sector_write_sector_write.C p l k H K := by
  apply slices_Clone_sector_write_sector_write.of
  have hlen : (xs.flatMap wc).length = l * 2 := h.1.symm
  refine cloneL (s := 2) (cells := xs.flatMap wc) rfl (by decide) rfl (by decide) rfl hlen (wcs_cell xs) (by show l * 24 ≤ _; omega) (fun hle G hG => sn_srcG (by decide) wc_len ((h.le hle).sn wc_len (by decide)) h.pt G hG) (fun hp => ?_) (fun p' k' H' hB _ hle => hK p' k' H' hB hle)
  rcases h.2 with ⟨_, h0, _⟩ | ⟨b, _, h1, _⟩
  · exact h0
  · rw [hp] at h1; cases h1
section
variable {H : Hp} {d : Nat} {O : List Nat} {s : DS}
theorem sector_Disk_Copy.c {K : Option Addr → Hp → Prop} (hu : Dk H d O s) (hw : s.w.length ≤ 1000000000) (hl : s.l.length ≤ 1000000000) (hK : ∀ H' e O', Dk H' e O' s → Le H H' → (∀ x ∈ O', H x = none) → K (some ⟨e, 0, none⟩) H') : sector_Disk_Copy.C (some ⟨d, 0, none⟩) H K := by
  apply sector_Disk_Copy.of
  obtain ⟨lp, k, wp, k', rfl, h⟩ := hu
  refine nil (ldL_i h.r0 (ldL_i h.r1 (ldI_i h.r2 (ldI_i h.r3 ?_))))
  intro e he
  refine ST_upd rfl (ST_upd rfl (ST_upd rfl (ST_upd rfl ?_)))
  generalize hH1 : upd H e _ = H1
  have le1 : Le H H1 := by rw [← hH1]; exact Le.upd he
  have q0 : rd H1 e 0 = some (.slice lp s.l.length k) := by rw [← hH1, rd_upd_self]; rfl
  have q1 : rd H1 e 1 = some (.slice wp s.w.length k') := by rw [← hH1, rd_upd_self]; rfl
  have q2 : rd H1 e 2 = some (.int .i64 (s.n : Nat)) := by rw [← hH1, rd_upd_self]; rfl
  have q3 : rd H1 e 3 = some (.int .i64 (leftI s.left)) := by rw [← hH1, rd_upd_self]; rfl
  have h1 := h.mod (P := []) le1.mod (by simp)
  refine nil (ldL_i h1.r0 (nil (ldL_i h1.r1 ?_)))
  refine slices_Clone_string_string.c h1.bl hl fun p2 k2 H2 hB2 le2 => ?_
  have h2 := h1.mod (P := []) le2.mod (by simp)
  refine ⟨h2.r1, ?_⟩
  refine slices_Clone_sector_write_sector_write.c h2.bw hw fun p3 k3 H3 hB3 le3 => ?_
  have le13 := le2.trans le3
  refine st (le13.rd q0) (st (v := .slice p3 s.w.length k3) (x := .slice wp s.w.length k') (by rw [rd_wr_off (by decide)]; exact le13.rd q1) ?_)
  have n2 : e ∉ blkL p2 := fun hx => ne_none_of_rd q0 (hB2.fr _ _ (blkL_mem hB2.zero hx))
  have n3 : e ∉ blkL p3 := fun hx => ne_none_of_rd (le2.rd q0) (hB3.fr _ _ (blkL_mem hB3.zero hx))
  have me : Mod [e] H3 (wr (wr H3 e 0 (.slice p2 s.l.length k2)) e 1 (.slice p3 s.w.length k3)) := (Mod.refl.wr (.inl (by simp))).wr (.inl (by simp))
  refine hK _ e (e :: (blkL p2 ++ blkL p3)) ⟨p2, k2, p3, k3, rfl, ⟨?_, ?_, ?_, ?_, ?_, ?_, n2, n3, fun x hx hx' => ?_, h.ok, h.wn, h.lim⟩⟩ (((le1.trans le13).wr he).wr he) fun x hx => ?_
  · rw [rd_wr_off (by decide), rd_wr_self (le13.rd q0)]
  · exact rd_wr_self (x := .slice wp s.w.length k') (by rw [rd_wr_off (by decide)]; exact le13.rd q1)
  · rw [rd_wr_off (by decide), rd_wr_off (by decide)]; exact le13.rd q2
  · rw [rd_wr_off (by decide), rd_wr_off (by decide)]; exact le13.rd q3
  · exact Buf.e0 ((hB2.le le3).mod me fun x o ex hx => by simp at hx; subst hx; exact n2 (by simp [blkL, ex]))
  · exact Buf.e0 (hB3.mod me fun x o ex hx => by simp at hx; subst hx; exact n3 (by simp [blkL, ex]))
  · exact blk_there hB2 x hx (hB3.fr _ _ (blkL_mem hB3.zero hx'))
  · rcases List.mem_cons.1 hx with rfl | hx
    · exact he
    rcases List.mem_append.1 hx with hx | hx
    · exact none_of_le le1 (hB2.fr _ _ (blkL_mem hB2.zero hx))
    · exact none_of_le (le1.trans le2) (hB3.fr _ _ (blkL_mem hB3.zero hx))
end
def zero64 : BL := List.replicate 64 0
def DS.new (n : Int) : DS := { l := List.replicate (min (max n 0) 1000).toNat zero64, w := [], n := 0, left := none }
theorem repl_set {α : Type} {n i : Nat} (h : i < n) (a b : α) : (List.replicate i a ++ List.replicate (n - i) b).set i a = List.replicate (i + 1) a ++ List.replicate (n - (i + 1)) b := by
  rw [List.set_append_right _ _ (by simp), List.length_replicate, Nat.sub_self, show n - i = (n - (i + 1)) + 1 by omega, List.replicate_succ, List.set_cons_zero, List.replicate_succ', List.append_assoc]
  rfl
theorem sector_New.c {n : Int} {H : Hp} {K : Option Addr → Hp → Prop} (hK : ∀ H' d O, Dk H' d O (DS.new n) → Le H H' → (∀ x ∈ O, H x = none) → K (some ⟨d, 0, none⟩) H') : sector_New.C n H K := by
  apply sector_New.of
  unfold sector_New.F
  unfold DS.new at hK
  obtain ⟨m, hm⟩ : ∃ m : Nat, min (max n 0) 1000 = (m : Nat) := ⟨(min (max n 0) 1000).toNat, by omega⟩
  rw [hm] at hK ⊢
  rw [Int.toNat_natCast] at hK
  have hm1 : m ≤ 1000 := by omega
  refine mk (n := m) rfl (by omega) (by omega) fun q hq => ?_
  intro d hd
  have hdq : d ≠ q := fun e => by subst e; simp [upd] at hd
  have le1 : Le H (upd (upd H q (rep m [.string .empty])) d [.slice (some ⟨q, 0, none⟩) m m, .slice none 0 0, .int .i64 0, .int .i64 (-1)]) := (Le.upd hq).trans (Le.upd hd)
  have hdH : H d = none := none_of_le (Le.upd hq) hd
  have hB : Buf 1 E0 (upd (upd H q (rep m [.string .empty])) d [.slice (some ⟨q, 0, none⟩) m m, .slice none 0 0, .int .i64 0, .int .i64 (-1)]) (some ⟨q, 0, none⟩) m m ((List.replicate m []).map sv) := by
    refine ⟨by simp, .inr ⟨q, [], rfl, rfl, ?_, by simp, Nat.le_refl _, ?_⟩⟩
    · rw [upd_ne (Ne.symm hdq)]
      simp only [upd, if_true, List.append_nil]
      show some (List.replicate m (Value.string .empty)) = _
      rw [List.map_replicate]; rfl
    · rw [List.append_nil, List.all_eq_true]
      intro v hv
      obtain ⟨_, _, rfl⟩ := List.mem_map.1 hv
      rfl
  have r : ∀ i v, ([Value.slice (some ⟨q, 0, none⟩) m m, .slice none 0 0, .int .i64 0, .int .i64 (-1)] : List Value)[i]? = some v → isCell v = true → rd (upd (upd H q (rep m [.string .empty])) d [.slice (some ⟨q, 0, none⟩) m m, .slice none 0 0, .int .i64 0, .int .i64 (-1)]) d i = some v := fun i v hv hc => by
    rw [rd_upd_self, hv]; exact nm_cell hc
  have r0 := r 0 _ rfl rfl
  have r1 := r 1 _ rfl rfl
  have r2 := r 2 _ rfl rfl
  have r3 := r 3 _ rfl rfl
  clear r
  generalize upd (upd H q (rep m [.string .empty])) d [.slice (some ⟨q, 0, none⟩) m m, .slice none 0 0, .int .i64 0, .int .i64 (-1)] = H1 at *
  refine ldL_i r0 ?_
  refine ⟨fun t H' => ∃ i : Nat, t = (i : Nat) ∧ i ≤ m ∧ Le H H' ∧ DkB H' d (some ⟨q, 0, none⟩) m none 0 { l := List.replicate i zero64 ++ List.replicate (m - i) [], w := [], n := 0, left := none }, fun t _ => ((m : Int) - t).toNat, ⟨0, rfl, Nat.zero_le _, le1, ?_⟩, ?_⟩
  · refine ⟨by simpa using r0, r1, r2, r3, by simpa using hB, Buf.none, by simpa [blkL] using hdq, by simp [blkL], by simp [blkL], by simp, Nat.le_refl _, by simp⟩
  rintro t H2 ⟨i, rfl, g1, g2, h⟩
  have hlen : (List.replicate i zero64 ++ List.replicate (m - i) ([] : BL)).length = m := by simp; omega
  have h0 := h.r0
  rw [show (({ l := List.replicate i zero64 ++ List.replicate (m - i) [], w := [], n := 0, left := none } : DS).l).length = m from hlen] at h0
  refine bcd (fun hi => ?_) (fun hi => ?_)
  · refine ldL_i h0 ?_
    refine strings_Repeat.c (n := 64) (by decide) fun H3 le3 => ?_
    have h3 := h.mod (P := []) le3.mod (by simp)
    refine ⟨le3.rd h0, idxN i rfl (by omega) (nil ?_)⟩
    have him : i < m := by omega
    have hB3 : rd H3 q (0 + i) = some (sv ((List.replicate i zero64 ++ List.replicate (m - i) ([] : BL))[i]'(by rw [hlen]; exact him))) := h3.bl.rd (by
      rw [List.getElem?_map]
      show Option.map sv ((List.replicate i zero64 ++ List.replicate (m - i) ([] : BL))[i]?) = _
      rw [List.getElem?_eq_getElem (by rw [hlen]; exact him)]; rfl)
    refine st hB3 (chk (by omega) ⟨⟨i + 1, rfl, by omega, (g2.trans le3).wr hq, ?_⟩, by first | omega | (dsimp only; omega)⟩)
    have h4 := h3.setl (i := i) (by show i < (List.replicate i zero64 ++ List.replicate (m - i) ([] : BL)).length; rw [hlen]; exact him) rfl zero64
    rw [Nat.zero_add]
    have e : ({ l := List.replicate (i + 1) zero64 ++ List.replicate (m - (i + 1)) [], w := [], n := 0, left := none } : DS) = { l := (List.replicate i zero64 ++ List.replicate (m - i) []).set i zero64, w := [], n := 0, left := none } := by rw [repl_set him]
    rw [e]
    exact h4
  · have hi : i = m := by omega
    subst hi
    simp only [Nat.sub_self, List.replicate_zero, List.append_nil] at h
    exact hK H2 d (d :: (blkL (some ⟨q, 0, none⟩) ++ blkL none)) ⟨_, _, _, _, rfl, h⟩ g2 (by simp [blkL, hdH, hq])
end Go.Proofs.Ytjfohhgmapipnaa
