/- Contracts. -/
import Derived.Test.YtjfohhgmapipnaaT5
namespace Go.Proofs.Ytjfohhgmapipnaa
open Go.V
/-! ### Package centolaw19 -/
theorem own_grow {H0 H : Hp} {O O' : List Nat} (hle : Le H0 H) (ho : ∀ x ∈ O, H0 x = none) (hg : Grew H O O') : ∀ x ∈ O', H0 x = none := fun x hx => by
  rcases hg x hx with h | h
  · exact ho x h
  · exact none_of_le hle h
theorem not_own {H : Hp} {O O' : List Nat} {b : Nat} (hb : H b ≠ none) (ho : b ∉ O) (hg : Grew H O O') : b ∉ O' := fun hx => by
  rcases hg b hx with h | h
  · exact ho h
  · exact hb h
theorem DS.write_len (s : DS) (i : Int) (b : BL) : (s.write i b).l.length = s.l.length := by unfold DS.write; split <;> first | rfl | (split <;> rfl)
theorem DS.flush_len (s : DS) : s.flush.l.length = s.l.length := by unfold DS.flush; split; exact keepF_len _ _ _ _; rfl
theorem DS.crash_len (s : DS) (b : Nat) : (s.crash b).l.length = s.l.length := keepF_len _ _ _ _
theorem DS.write_n (s : DS) (i : Int) (b : BL) : (s.write i b).n = if s.on then s.n + 1 else s.n := by unfold DS.write; split <;> first | rfl | (split <;> rfl)
theorem DS.flush_n (s : DS) : s.flush.n = if s.on then s.n + 1 else s.n := by unfold DS.flush; split <;> rfl
theorem DS.write_left (s : DS) (i : Int) (b : BL) : (s.write i b).left = if s.on then s.left.map (· - 1) else s.left := by unfold DS.write; split <;> first | rfl | (split <;> rfl)
theorem DS.flush_left (s : DS) : s.flush.left = if s.on then s.left.map (· - 1) else s.left := by unfold DS.flush; split <;> rfl
theorem Dk.wn {H : Hp} {d : Nat} {O : List Nat} {s : DS} (h : Dk H d O s) : s.w.length ≤ s.n := by obtain ⟨_, _, _, _, _, h⟩ := h; exact h.wn

theorem centolaw19_known.c {H : Hp} {K : Bool → Hp → Prop} (hK : ∀ H', Le H H' → K true H') : centolaw19_known.C H K := by
  apply centolaw19_known.of
  refine sector_New.c fun H1 d O1 h1 le1 o1 => ?_
  refine bcd (fun h => by cases h) fun _ => ?_
  have s1e : (DS.new 4).writeE 1 [97, 98] = 0 := by kernel_rfl
  refine sector_Disk_Write.c (b := [97, 98]) h1 (by decide) fun H2 O2 h2 m2 g2 => ?_
  rw [s1e]
  refine bcd (fun h => absurd rfl h) fun _ => ?_
  have le2 := m2.le le1 o1
  have o2 := own_grow le1 o1 g2
  have s2e : ((DS.new 4).write 1 [97, 98]).writeE 9 [] = 10 := by kernel_rfl
  refine sector_Disk_Write.c (b := []) h2 (by decide) fun H3 O3 h3 m3 g3 => ?_
  rw [s2e]
  refine bcd (fun h => absurd rfl h) fun _ => ?_
  have le3 := m3.le le2 o2
  have o3 := own_grow le2 o2 g3
  unfold centolaw19_known.k1
  have r3 : (((DS.new 4).write 1 [97, 98]).write 9 []).read 1 = pad [97, 98] ∧ (((DS.new 4).write 1 [97, 98]).write 9 []).readE 1 = 0 := ⟨by kernel_rfl, by kernel_rfl⟩
  generalize hs3 : ((DS.new 4).write 1 [97, 98]).write 9 [] = s3 at h3 r3
  have n3 : s3.n ≤ 1000000000 ∧ s3.w.length ≤ 1000000000 := by rw [← hs3]; exact ⟨by decide, by decide⟩
  refine sector_Disk_Read.c h3 n3.2 fun H4 le4 => ?_
  rw [r3.1, r3.2]
  have h4 := h3.le le4
  have le04 := le3.trans le4
  refine sector_Disk_Crash.c (bits := 0) h4 n3.2 (by decide) fun H5 O5 h5 m5 g5 => ?_
  have le5 := m5.le le04 o3
  have o5 := own_grow le04 o3 g5
  have r5 : (s3.crash 0).read 1 = zero64 ∧ (s3.crash 0).readE 1 = 0 := by rw [← hs3]; exact ⟨by kernel_rfl, by kernel_rfl⟩
  have n5 : (s3.crash 0).n ≤ 1000000000 ∧ (s3.crash 0).w.length ≤ 1000000000 := ⟨n3.1, Nat.zero_le _⟩
  refine sector_Disk_Read.c h5 n5.2 fun H6 le6 => ?_
  rw [r5.1, r5.2]
  have h6 := h5.le le6
  have le06 := le5.trans le6
  refine sector_Disk_Write.c (b := [99, 100]) h6 n5.1 fun H7 O7 h7 m7 g7 => ?_
  have le7 := m7.le le06 o5
  have o7 := own_grow le06 o5 g7
  generalize hs7 : (s3.crash 0).write 1 [99, 100] = s7 at h7
  have n7 : s7.n ≤ 1000000000 ∧ s7.w.length ≤ 1000000000 := by rw [← hs7, ← hs3]; exact ⟨by decide, by decide⟩
  refine sector_Disk_Crash.c (bits := 1) h7 n7.2 (by decide) fun H8 O8 h8 m8 g8 => ?_
  have le8 := m8.le le7 o7
  have o8 := own_grow le7 o7 g8
  have r8 : (s7.crash 1).read 1 = pad [99, 100] ∧ (s7.crash 1).readE 1 = 0 := by rw [← hs7, ← hs3]; exact ⟨by kernel_rfl, by kernel_rfl⟩
  refine sector_Disk_Read.c h8 (Nat.zero_le _) fun H9 le9 => ?_
  rw [r8.1, r8.2]
  have h9 := h8.le le9
  have le09 := le8.trans le9
  refine sector_Disk_Limit.c h9 (by decide) fun H10 h10 m10 => ?_
  have o8' : ∀ x ∈ [d], H x = none := by simpa using o8 d h8.hd
  have le10 := m10.le le09 o8'
  have r10 : ((s7.crash 1).limit 0).readE 1 = 23 ∧ ((s7.crash 1).limit 0).flushE = 23 := ⟨rfl, rfl⟩
  refine sector_Disk_Read.c h10 (Nat.zero_le _) fun H11 le11 => ?_
  rw [r10.1]
  have h11 := h10.le le11
  refine bcd (fun _ => bcd (fun _ => bnd01 2 rfl (by decide) (bcd (fun _ => bcd (fun _ => bcd (fun _ => idxN 0 rfl (by decide) (bcd (fun _ => bcd (fun _ => bcd (fun _ => bnd01 2 rfl (by decide) (bcd (fun _ => bcd (fun _ => ?_) fun h => absurd rfl h) fun h => absurd (by kernel_rfl) h)) fun h => absurd rfl h) fun h => absurd rfl h) fun h => absurd rfl h)) fun h => absurd rfl h) fun h => absurd rfl h) fun h => absurd (by kernel_rfl) h)) fun h => absurd rfl h) fun h => absurd rfl h
  refine sector_Disk_Flush.c h11 (by rw [show ((s7.crash 1).limit 0).n = s7.n from rfl]; exact n7.1) fun H12 O12 h12 m12 g12 => ?_
  rw [r10.2]
  refine bcd (fun _ => sector_Disk_Steps.c h12 ?_) fun h => absurd rfl h
  have e12 : ((s7.crash 1).limit 0).flush.n = 3 ∧ ((s7.crash 1).limit 0).flush.l.length = 4 := by rw [← hs7, ← hs3]; exact ⟨by kernel_rfl, by kernel_rfl⟩
  rw [e12.1]
  refine bcd (fun _ => sector_Disk_Len.c h12 ?_) fun h => absurd rfl h
  rw [e12.2]
  exact hK H12 (m12.le (le10.trans le11) o8)
end Go.Proofs.Ytjfohhgmapipnaa
